/- AstAll. -/
import Derived.Test.YtfnacnlaphpflaaDoorAlp
import Derived.Test.YtfnacnlaphpflaaDoorAts
import Derived.Test.YtfnacnlaphpflaaDoorEsq
import Derived.Test.YtfnacnlaphpflaaDoorPRm
import Derived.Test.YtfnacnlaphpflaaDoorRSame
import Derived.Test.YtfnacnlaphpflaaDoorAwake
namespace Go.Proofs.YtfnacnlaphpflaaDoor
open Go.RowKit Go.Kx
attribute [local go_sem] Oper.semAt_some
set_option maxRecDepth 100000
/-- what the law's frame holds: the program, how far, the answer -/
structure Fr9 (w W : World) (cs : Array Value) (z : Int) (b : Bool) : Prop where
  p : Blk W w.heap.size 39 cs
  s : Blk W (w.heap.size + 1) 43 #[.int .u16 z]
  r : Blk W (w.heap.size + 1 + 1) 4 #[.bool b]
  o : Only [] w W
theorem Fr9.keep {w W W' : World} {cs : Array Value} {z : Int} {b : Bool} (h : Fr9 w W cs z b) (o : Only [] W W') : Fr9 w W' cs z b := ⟨o.blk h.p (by simp), o.blk h.s (by simp), o.blk h.r (by simp), h.o.trans o (by simp)⟩
theorem neq_pl (a b c d : Int) (W : World) : (binOp .neq 50 (.agg #[.int .i64 a, .int .i64 b, .int .i64 c, .int .i64 d]) (.agg #[.int .i64 a, .int .i64 b, .int .i64 c, .int .i64 d])).run Tryd.prog W = .ok (.bool false) W := by simp [go_sem]
theorem allL_sm {ms : List Md} (h : smallP ms) : ∀ s ∈ allL ms, s.e.sm = true := fun s hs => by
  obtain ⟨x, hx, m, hm⟩ := allL_mem hs
  refine h.2 _ (List.mem_flatMap.2 ⟨x, hx, ?_⟩)
  rcases mdL_mem hm with ⟨a, ha, e⟩ | e | ⟨a, ha, e | e⟩ | ⟨a, ha, e⟩ | ⟨a, ha, e⟩ | ⟨a, ha, e⟩ | ⟨a, ha, e⟩
  · rw [e]; exact mem_vars ha
  · exact mem_ta e
  · rw [e]; exact mem_emits ha
  · exact mem_ifs ha e
  · rw [e]; exact mem_int ha
  · rw [e]; exact mem_ext ha
  · rw [e]; exact mem_own ha
  · rw [e]; exact mem_rules ha
set_option maxHeartbeats 16000000 in
theorem alls_any {A : Option Addr} {c : Nat} {us : List Md} {rt : ByteArray} {z : Int} {w : World} (hA : RowX Md.cs 14 Md.Li w A us) (hrt : okS rt) (hz0 : 0 ≤ z) (hz1 : z ≤ 65535) (hW : WordsIs w) :
    Calls Tryd.prog 9 #[.agg #[.slice A us.length c, .string rt], .int .u16 z] w fun r w' => r = .returned (.bool true) ∧ Only [] w w' := by
  have C1 := Lib.hid (fun W (o : Only [] w W) => awake_any (hW.keep o))
  have CS := Lib.hid (fun W (o : Only [] w W) => (show Calls Tryd.prog 24 #[.agg #[.slice A us.length c, .string rt]] W fun e w' => (e = .returned (.int .i64 0) ∨ (e = .returned (.int .i64 1) ∧ smallP us)) ∧ Only [] W w' from small_any (hA.keep Md.Li.keep o)))
  have C29 := Lib.hid (fun W (o : Only [] w W) (h : (us.flatMap Md.es).length ≤ 1000) => (show Calls Tryd.prog 29 #[.agg #[.slice A us.length c, .string rt]] W (AtOut0 W us) from rexprs_any (hA.keep Md.Li.keep o) h))
  have C27 := Lib.hid (fun W (o : Only [] w W) => (show Calls Tryd.prog 27 #[.agg #[.slice A us.length c, .string rt]] W fun e w' => e = .returned (.bool (okP us rt)) ∧ Only [] W w' from rightprog_any (hA.keep Md.Li.keep o) hrt (hW.keep o)))
  have C30 := Lib.hid (fun W (o : Only [] w W) (h : smallP us) => (show Calls Tryd.prog 30 #[.agg #[.slice A us.length c, .string rt]] W (ExOut W us) from exprs_any (hA.keep Md.Li.keep o) h))
  have HALI := Lib.hid (allL_lies hA)
  have HWW := Lib.hid hW
  have HOK := Lib.hid (show okP us rt = true → ∀ s ∈ allL us, s.e.tr.ok = true from fun h => allL_ok h)
  obtain ⟨qok, hq⟩ : ∃ q, okP us rt = q := ⟨_, rfl⟩
  rw [hq] at C27 HOK
  clear hq hA hrt hW
  obtain ⟨W3, hW3⟩ : ∃ W3, ((w.alloc (.cells #[.slice A us.length c, .string rt] 39)).alloc (.cells #[.int .u16 z] 43)).alloc (.cells #[.bool false] 4) = W3 := ⟨_, rfl⟩
  have ba : Blk W3 w.heap.size 39 #[.slice A us.length c, .string rt] := by rw [← hW3]; exact ((Blk.new w 39 _).alloc _).alloc _
  have bb : Blk W3 (w.heap.size + 1) 43 #[.int .u16 z] := by rw [← hW3]; have h := Blk.new (w.alloc (.cells #[.slice A us.length c, .string rt] 39)) 43 #[.int .u16 z]; simpa using h.alloc _
  have br : Blk W3 (w.heap.size + 1 + 1) 4 #[.bool false] := by rw [← hW3]; have h := Blk.new ((w.alloc (.cells #[.slice A us.length c, .string rt] 39)).alloc (.cells #[.int .u16 z] 43)) 4 #[.bool false]; simpa using h
  have oo : Only [] w W3 := by rw [← hW3]; exact (((Only.refl [] w).alloc _).alloc _).alloc _
  have K3 := Lib.hid (Fr9.mk ba bb br oo)
  clear ba bb br oo
  refine calls_marks Tryd.func9 rfl ?_
  show Code.wp _ _ _ { tmps := #[.agg #[.slice A us.length c, .string rt], .int .u16 z] ++ _, defers := [] } w
  simp only [Tryd.ntmps9, List.size_toArray, List.length_cons, List.length_nil, Nat.reduceAdd, Nat.reduceSub, Array.replicate_succ, Array.replicate_zero, List.push_toArray, List.append_toArray, List.nil_append, List.cons_append]
  go_wp2_with (fail)
  clear hW3
  refine (C1.out _ K3.out.o).mono ?_
  rintro r w4 ⟨rfl, o4⟩
  have K4 := Lib.hid (K3.out.keep o4)
  clear o4
  obtain ⟨b0, b1, bl⟩ := K4.out.p.facts2
  go_wp2_with (fail)
  refine (CS.out _ K4.out.o).mono ?_
  rintro r w5 ⟨hr, o5⟩
  have K5 := Lib.hid (K4.out.keep o5)
  clear o5 b0 b1 bl
  rcases hr with rfl | ⟨rfl, hsm⟩
  · go_wp2_with (fail)
    refine (C1.out _ K5.out.o).mono ?_
    rintro r w6 ⟨rfl, o6⟩
    have K6 := Lib.hid (K5.out.keep o6)
    clear o6
    obtain ⟨r0, rl⟩ := K6.out.r.facts1
    have fr := K6.out.r.frozen 0
    go_wp2_with (fail)
    have hr2 := K6.out.r.set_ 0 (.bool true)
    obtain ⟨x0, _⟩ := Blk.facts1 (a := .bool true) hr2
    exact ⟨.bool true, by simp [results, Tryd.results9, go_sem, x0], rfl, K6.out.o.setCell (.inr (by simp; omega)) _⟩
  · have HSM := Lib.hid hsm
    clear hsm
    obtain ⟨b0, b1, bl⟩ := K5.out.p.facts2
    go_wp2_with (fail)
    refine (C29.out _ K5.out.o (by have := HSM.out.1; omega)).mono ?_
    rintro r w6 ⟨Aw, cw, N, rfl, hat, o6⟩
    have K6 := Lib.hid (K5.out.keep o6)
    have HAT := Lib.hid hat
    have HL5 := Lib.hid K5.out.r.lt
    clear o6 hat b0 b1 bl
    obtain ⟨b0, b1, bl⟩ := K6.out.p.facts2
    have q1 := Blk.new w6 44 #[.slice Aw N cw]
    have o7 : Only [] w6 (w6.alloc (.cells #[.slice Aw N cw] 44)) := (Only.refl _ _).alloc _
    have O7 := Lib.hid o7
    have Q17 := Lib.hid q1
    have HS7 := Lib.hid (show (w6.alloc (.cells #[.slice Aw N cw] 44)).heap.size = w6.heap.size + 1 from by simp)
    clear q1 o7
    go_wp2_with (fail)
    refine (C27.out _ (K6.out.o.trans O7.out (by simp))).mono ?_
    rintro r w8 ⟨rfl, o8⟩
    have HSZ8 := Lib.hid (show w6.heap.size + 1 ≤ w8.heap.size from by have := o8.size; have := HS7.out; omega)
    have O8 := Lib.hid (O7.out.trans o8 (by simp))
    have Q18 := Lib.hid (o8.blk Q17.out (by simp))
    have K8 := Lib.hid (K6.out.keep O8.out)
    clear o8 O7 Q17 b0 b1 bl
    obtain ⟨b0, b1, bl⟩ := K8.out.p.facts2
    have q2 := Blk.new w8 4 #[.bool qok]
    have q3 := Blk.new (w8.alloc (.cells #[.bool qok] 4)) 3 #[.int .i64 0]
    simp only [World.size_alloc] at q3
    have o9 : Only [] w8 ((w8.alloc (.cells #[.bool qok] 4)).alloc (.cells #[.int .i64 0] 3)) := ((Only.refl _ _).alloc _).alloc _
    have Q29 := Lib.hid (show Blk ((w8.alloc (.cells #[.bool qok] 4)).alloc (.cells #[.int .i64 0] 3)) w8.heap.size 4 #[.bool qok] from q2.alloc _)
    have Q39 := Lib.hid q3
    have O9 := Lib.hid o9
    have HS9 := Lib.hid (show ((w8.alloc (.cells #[.bool qok] 4)).alloc (.cells #[.int .i64 0] 3)).heap.size = w8.heap.size + 1 + 1 from by simp)
    clear q2 q3 o9
    go_wp2_with (fail)
    clear b0 b1 bl
    generalize (w8.alloc (.cells #[.bool qok] 4)).alloc (.cells #[.int .i64 0] 3) = w9 at *
    refine (C30.out _ (K8.out.o.trans O9.out (by simp)) HSM.out).mono ?_
    rintro r wT ⟨cb, Ar, cr, jr, rfl, hcb, hcl, hcu, hst, oT⟩
    obtain ⟨L2, hL2, hS2⟩ := hst
    have hjN : jr = N := by have h1 := hS2.len; have h2 := HAT.out.1; omega
    subst hjN
    have KT := Lib.hid ((K8.out.keep O9.out).keep oT)
    have Q1 := Lib.hid ((O9.out.trans oT (by simp)).blk Q18.out (by simp))
    have Q2 := Lib.hid (oT.blk Q29.out (by simp))
    have Q3 := Lib.hid (oT.blk Q39.out (by simp))
    have hcnt : jr ≤ 1048576 := by have h1 := HAT.out.1; rw [allL_len] at h1; have := HSM.out.1; omega
    have HCNT := Lib.hid hcnt
    have HKEY := Lib.hid hS2.key
    have HASM := Lib.hid (allL_sm HSM.out)
    have hseq := exprs_seqs hS2 hL2 hcb (fun s hs => by
      obtain ⟨k, hk⟩ := List.getElem?_of_mem hs
      obtain ⟨y, hy⟩ : ∃ y, (allL us)[k]? = some y := ⟨_, List.getElem?_eq_getElem (by have := (List.getElem?_eq_some_iff.1 hk).1; have := hS2.len; omega)⟩
      exact sm_tr (key_at hS2.key hk hy).2.2.2.symm (HASM.out y (List.mem_of_getElem? hy))) hcnt
    have HSEQ := Lib.hid hseq
    have HPR := Lib.hid (show ∀ b ∈ cb :: (Ar.toList.map (·.block) ++ L2.flatMap fun s => s.e.blks), b ∉ [w.heap.size + 1 + 1, w8.heap.size + 1] from fun b hb hm => by
      have h1 := HS9.out
      have h2 := HSZ8.out
      have h3 := K6.out.r.lt
      have h4 : w9.heap.size ≤ b := by
        rcases List.mem_cons.1 hb with rfl | hb
        · exact hcl
        · rcases List.mem_append.1 hb with hb | hb
          · cases Ar with
            | none => simp at hb
            | some q => simp at hb; subst hb; have := (hS2.low q rfl).1; omega
          · obtain ⟨s, hs, hb⟩ := List.mem_flatMap.1 hb
            have := (hS2.off s hs b hb).1; omega
      simp at hm
      omega)
    have HRD := Lib.hid (show ∀ (k : Nat) (s : Sp), (allL us)[k]? = some s → ∃ g, Aw = some ⟨g, 0, none⟩ ∧ w.heap.size + 1 + 1 < g ∧ g < w6.heap.size ∧ g < wT.heap.size ∧ ∀ j u, s.cd[j]? = some u → wT.cell? ⟨g, k * 8 + j, none⟩ = some u from fun k s hk => by
      obtain ⟨g, hg, hB, hl, hc⟩ := HAT.out.2.read hk
      have o6T := (O8.out.trans (O9.out.trans oT (by simp)) (by simp))
      exact ⟨g, hg, by have := HL5.out; omega, hl, Nat.lt_of_lt_of_le hl o6T.size, fun j u hu => (o6T.cell (p := ⟨g, k * 8 + j, none⟩) hl (by simp)).trans (hc j u hu)⟩)
    have HLL := Lib.hid HAT.out.1
    have hrl : w.heap.size + 1 + 1 < w6.heap.size := K6.out.r.lt
    have h68 : w6.heap.size + 1 ≤ w8.heap.size := HSZ8.out
    have h8T : w8.heap.size + 1 < wT.heap.size := Q3.out.lt
    clear hcb hcl hcu hS2 hL2 oT hseq HAT K3 K4 K5 K6 K8 O8 O9 Q18 Q29 Q39 HS7 HS9 HSZ8 HL5 C1 CS C29 C27 C30 HASM hcnt HSM
    go_wp2_with (fail)
    refine' wp_rangeFunc_seqsP (gf := 52) (lb := #[.pointer (some ⟨cb, 0, none⟩)]) (N := jr) (R := RS L2) rfl (enters Tryd.func52 (by kernel_rfl) rfl)
      HSEQ.out (by rintro k v W ⟨s, x, _, rfl, _⟩; rfl) [w.heap.size + 1 + 1, w8.heap.size + 1] (by simp; omega) HPR.out
      (fun k S W => Blk W (w8.heap.size + 1) 3 #[.int .i64 k] ∧ Blk W (w.heap.size + 1 + 1) 4 #[.bool false] ∧ S = [w.heap.size + 1 + 1, w8.heap.size + 1] ∧ Only [w.heap.size + 1 + 1, w8.heap.size + 1] wT W)
      (fun c W => c = .ret ∧ Blk W (w.heap.size + 1 + 1) 4 #[.bool true] ∧ Only [w.heap.size + 1 + 1, w8.heap.size + 1] wT W) ?hI ?hIx ?h0 ?round ?done ?stop
    case hI =>
      rintro k S W1 W2 ⟨h1, h2, rfl, h4⟩ hk
      exact ⟨hk.blk h1, hk.blk h2, rfl, h4.keepC hk (Nat.le_refl _)⟩
    case hIx =>
      rintro c W1 W2 ⟨rfl, h2, h4⟩ hk
      exact ⟨rfl, hk.blk h2, h4.keepC hk (Nat.le_refl _)⟩
    case h0 => exact ⟨Q3.out, KT.out.r, rfl, Only.refl _ _⟩
    case done =>
      rintro D S W hD ⟨hn, hr, rfl, hO⟩ hKd
      obtain ⟨n0, nl⟩ := hn.facts1
      obtain ⟨r0, rl⟩ := hr.facts1
      have fr := hr.frozen 0
      obtain ⟨q0, ql⟩ := (hO.blk Q1.out (by simp; omega)).facts1
      have HRB := Lib.hid hr
      have HD := Lib.hid hKd
      have HOO := Lib.hid (show Only [] w W from KT.out.o.trans hO (fun b hb => by simp at hb; right; omega))
      clear hn hr hO hKd
      go_wp2_with (fail)
      have hr2 := HRB.out.set_ 0 (.bool true)
      have hO2 := HOO.out.setCell (p := ⟨w.heap.size + 1 + 1, 0, none⟩) (.inr (by simp; omega)) (.bool true)
      have hK3 := ((only_setCell W ⟨w.heap.size + 1 + 1, 0, none⟩ (.bool true)).block D (Array.getElem?_eq_some_iff.1 HD.out).1 (by simp; omega)).trans HD.out
      refine ⟨by simp, .inl ⟨_, _, rfl, run_takeDeferred hK3, ?_⟩⟩
      have hk := KeepC.putObj (B := D) (o' := .deferred none) hK3 rfl (Nat.le_refl _)
      obtain ⟨x0, _⟩ := (hk.blk hr2).facts1
      exact ⟨.bool true, by simp [results, Tryd.results9, go_sem, x0], rfl, hO2.keepC hk (by omega)⟩
    case stop =>
      rintro D c W hD ⟨rfl, hr, hO⟩ hKd
      have HRB := Lib.hid hr
      have HD := Lib.hid hKd
      have HOO := Lib.hid (show Only [] w W from KT.out.o.trans hO (fun b hb => by simp at hb; right; omega))
      clear hr hO hKd
      go_wp2_with (fail)
      refine ⟨by simp, .inl ⟨_, _, rfl, run_takeDeferred HD.out, ?_⟩⟩
      have hk := KeepC.putObj (B := D) (o' := .deferred none) HD.out rfl (Nat.le_refl _)
      obtain ⟨x0, _⟩ := (hk.blk HRB.out).facts1
      exact ⟨.bool true, by simp [results, Tryd.results9, go_sem, x0], rfl, HOO.out.keepC hk (by omega)⟩
    case round =>
      intro l k v S V hl hlS hk hR hIV
      obtain ⟨s, x, hs, rfl, hxt, hxL⟩ := hR
      obtain ⟨y, hy⟩ : ∃ y, (allL us)[k]? = some y := ⟨_, List.getElem?_eq_getElem (by have := HLL.out; omega)⟩
      obtain ⟨km, kp, ki, kt⟩ := key_at HKEY.out hs hy
      have hmem := List.mem_of_getElem? hy
      have hyL := HALI.out y hmem
      have hyok := fun h => HOK.out h y hmem
      obtain ⟨g, hg, hgr, hg6, hgT, hgc⟩ := HRD.out k y hy
      obtain ⟨ym, yp, yi, ye⟩ := y
      obtain ⟨sm, sp, si, se⟩ := s
      dsimp only at km kp ki kt hxt hyL hyok
      subst km kp ki
      have hxy : x.tr = ye.tr := hxt.trans kt
      have hsame : x.tr.same ye.tr = true := by rw [hxy, same_refl]
      have hxok : qok = true → x.tr.ok = true := fun h => by rw [hxy]; exact hyok h
      obtain ⟨xop, xn, xnm, xsb, xA, xcap, xargs⟩ := x
      obtain ⟨yop, yn, ynm, ysb, yA, ycap, yargs⟩ := ye
      subst hg
      have HYC := Lib.hid (show g < wT.heap.size ∧ wT.cell? ⟨g, k * 8, none⟩ = some (.int .i64 (sm : Nat)) ∧ wT.cell? ⟨g, k * 8 + 1, none⟩ = some (.int .i64 (sp : Nat)) ∧ wT.cell? ⟨g, k * 8 + 2, none⟩ = some (.int .i64 (si : Nat)) ∧ wT.cell? ⟨g, k * 8 + 3, none⟩ = some (.int .i64 yop) ∧ wT.cell? ⟨g, k * 8 + 4, none⟩ = some (.int .i64 yn) ∧ wT.cell? ⟨g, k * 8 + 5, none⟩ = some (.string ynm) ∧ wT.cell? ⟨g, k * 8 + 6, none⟩ = some (.string ysb) ∧ wT.cell? ⟨g, k * 8 + 7, none⟩ = some (.slice yA (List.length yargs) ycap) from ⟨hgT, hgc 0 _ rfl, hgc 1 _ rfl, hgc 2 _ rfl, hgc 3 _ rfl, hgc 4 _ rfl, hgc 5 _ rfl, hgc 6 _ rfl, hgc 7 _ rfl⟩)
      have HXL := Lib.hid hxL
      have HYL := Lib.hid hyL
      have HSAME := Lib.hid hsame
      have HXOK := Lib.hid hxok
      clear hs hy hxt hxL hyL hxy hsame hIV kt hmem hyok hxok hgc hgT
      show Code.wpIn _ _ _ _ _ { tmps := ((#[24, 25] : Array Tmp).zip #[Value.agg #[.int .i64 sm, .int .i64 sp, .int .i64 si, .int .i64 0], Value.agg #[.int .i64 xop, .int .i64 xn, .string xnm, .string xsb, .slice xA xargs.length xcap]]).foldl _ _, defers := [] } V
      gi_wp2_with (fail)
      refine ⟨((Only.refl [] V).alloc _).alloc _, ?_⟩
      intro X hrec hIX hkk
      obtain ⟨hn, hr, hS, hO⟩ := hIX
      subst hS
      have HNB := Lib.hid hn
      have HRB := Lib.hid hr
      have HOX := Lib.hid hO
      have hb1 := Blk.new V 50 #[.int .i64 sm, .int .i64 sp, .int .i64 si, .int .i64 0]
      have hb2 := Blk.new (V.alloc (.cells #[.int .i64 sm, .int .i64 sp, .int .i64 si, .int .i64 0] 50)) 24 #[.int .i64 xop, .int .i64 xn, .string xnm, .string xsb, .slice xA xargs.length xcap]
      simp only [World.size_alloc] at hb2
      have HPB := Lib.hid (hkk.blk (hb1.alloc _))
      have HXB := Lib.hid (hkk.blk hb2)
      have HQB := Lib.hid (hO.blk Q1.out (by simp; omega))
      have HTB := Lib.hid (hO.blk Q2.out (by simp; omega))
      have HSB := Lib.hid (hO.blk KT.out.s (by simp; omega))
      have HOW := Lib.hid (show Only [] w X from KT.out.o.trans hO (fun b hb => by simp at hb; right; omega))
      have HXX := Lib.hid ((HXL.out.keep (((Only.refl [] V).alloc (.cells #[.int .i64 sm, .int .i64 sp, .int .i64 si, .int .i64 0] 50)).alloc (.cells #[.int .i64 xop, .int .i64 xn, .string xnm, .string xsb, .slice xA xargs.length xcap] 24))).keepC hkk)
      have HCA := Lib.hid (show ∀ W, Only [] X W → Calls Tryd.prog 14 #[.agg #[.int .i64 xop, .int .i64 xn, .string xnm, .string xsb, .slice xA xargs.length xcap], .agg #[.int .i64 yop, .int .i64 yn, .string ynm, .string ysb, .slice yA yargs.length ycap]] W fun r w' => r = .returned (.bool true) ∧ Only [] W w' from fun W o => (rsame_any _ _ W (HXX.out.keep o) (HYL.out.keep (HOW.out.trans o (by simp)))).mono (by
        rintro r w' ⟨rfl, o2⟩
        exact ⟨by rw [HSAME.out], o2⟩))
      have HCB := Lib.hid (show qok = true → ∀ W, Only [] X W → Calls Tryd.prog 20 #[.agg #[.int .i64 xop, .int .i64 xn, .string xnm, .string xsb, .slice xA xargs.length xcap]] W fun r w' => r = .returned (.bool true) ∧ Only [] W w' from fun h W o => (pright_any (HXX.out.keep o) (HWW.out.keep (HOW.out.trans o (by simp)))).mono (by
        rintro r w' ⟨rfl, o2⟩
        exact ⟨by rw [HXOK.out h], o2⟩))
      have HGE := Lib.hid (show decide (jr ≤ k) = false from decide_eq_false (by omega))
      have HNE := Lib.hid (neq_pl sm sp si 0)
      have HYX := Lib.hid (show g < X.heap.size ∧ X.cell? ⟨g, k * 8, none⟩ = some (.int .i64 (sm : Nat)) ∧ X.cell? ⟨g, k * 8 + 1, none⟩ = some (.int .i64 (sp : Nat)) ∧ X.cell? ⟨g, k * 8 + 2, none⟩ = some (.int .i64 (si : Nat)) ∧ X.cell? ⟨g, k * 8 + 3, none⟩ = some (.int .i64 yop) ∧ X.cell? ⟨g, k * 8 + 4, none⟩ = some (.int .i64 yn) ∧ X.cell? ⟨g, k * 8 + 5, none⟩ = some (.string ynm) ∧ X.cell? ⟨g, k * 8 + 6, none⟩ = some (.string ysb) ∧ X.cell? ⟨g, k * 8 + 7, none⟩ = some (.slice yA (List.length yargs) ycap) from by
        have e : ∀ j v, wT.cell? ⟨g, j, none⟩ = some v → X.cell? ⟨g, j, none⟩ = some v := fun j v h => (hO.cell (p := ⟨g, j, none⟩) HYC.out.1 (by simp; omega)).trans h
        exact ⟨Nat.lt_of_lt_of_le HYC.out.1 hO.size, e _ _ HYC.out.2.1, e _ _ HYC.out.2.2.1, e _ _ HYC.out.2.2.2.1, e _ _ HYC.out.2.2.2.2.1, e _ _ HYC.out.2.2.2.2.2.1, e _ _ HYC.out.2.2.2.2.2.2.1, e _ _ HYC.out.2.2.2.2.2.2.2.1, e _ _ HYC.out.2.2.2.2.2.2.2.2⟩)
      obtain ⟨pb, hpb⟩ : ∃ pb, V.heap.size = pb := ⟨_, rfl⟩
      rw [hpb] at HPB HXB ⊢
      have hkN : (k : Int) < (jr : Int) := by omega
      have hki : (0 : Int) ≤ (k : Int) := by omega
      clear hn hr hO hkk hrec hpb hb1 hb2
      gi_wp2_with (fail)
      cases qok
      · refine wpIn_region_relR 45 (Only []) (fr := ?frg2) (tl := ?tlg2) (fun iq v wv => match iq with
          | 0 => v = .int .i64 (k : Int)
          | 1 => v = .slice (some ⟨g, 0, none⟩) jr cw
          | 2 => v = .int .i64 (jr : Nat)
          | 3 => v = .bool false
          | 4 => v = .bool false
          | 5 => v = .agg #[.int .i64 sm, .int .i64 sp, .int .i64 si, .int .i64 0]
          | 6 => v = .slice (some ⟨g, 0, none⟩) jr cw
          | 7 => v = .int .i64 (k : Int)
          | 8 => v = .pointer (some ⟨g, k * 8, none⟩)
          | 9 => v = .pointer (some ⟨g, k * 8, none⟩)
          | 10 => v = .pointer (some ⟨g, k * 8, none⟩)
          | 11 => v = .int .i64 (sm : Nat)
          | 12 => v = .slice (some ⟨g, 0, none⟩) jr cw
          | 13 => v = .int .i64 (k : Int)
          | 14 => v = .pointer (some ⟨g, k * 8, none⟩)
          | 15 => v = .pointer (some ⟨g, k * 8, none⟩)
          | 16 => v = .pointer (some ⟨g, k * 8 + 1, none⟩)
          | 17 => v = .int .i64 (sp : Nat)
          | 18 => v = .slice (some ⟨g, 0, none⟩) jr cw
          | 19 => v = .int .i64 (k : Int)
          | 20 => v = .pointer (some ⟨g, k * 8, none⟩)
          | 21 => v = .pointer (some ⟨g, k * 8, none⟩)
          | 22 => v = .pointer (some ⟨g, k * 8 + 2, none⟩)
          | 23 => v = .int .i64 (si : Nat)
          | 24 => v = .agg #[.int .i64 sm, .int .i64 sp, .int .i64 si, .int .i64 0]
          | 25 => v = .bool false
          | 26 => v = .bool false
          | 27 => v = .bool false
          | 28 => v = .agg #[.int .i64 xop, .int .i64 xn, .string xnm, .string xsb, .slice xA xargs.length xcap]
          | 29 => v = .slice (some ⟨g, 0, none⟩) jr cw
          | 30 => v = .int .i64 (k : Int)
          | 31 => v = .pointer (some ⟨g, k * 8, none⟩)
          | 32 => v = .pointer (some ⟨g, k * 8 + 3, none⟩)
          | 33 => v = .agg #[.int .i64 yop, .int .i64 yn, .string ynm, .string ysb, .slice yA yargs.length ycap]
          | 34 => v = .bool true
          | 35 => v = .bool false
          | 36 => v = .bool false
          | 37 => v = .bool false
          | 38 => v = .bool false
          | 39 => v = .bool false
          | 43 => v = .bool false
          | 44 => v = .bool false
          | _ => True) (.inr ⟨_, rfl⟩) (by kernel_rfl) (by kernel_rfl) (by kernel_rfl) (by kernel_rfl) (by kernel_rfl) (by kernel_rfl) (by decide) ?htlg2 ?hfrg2 (Only.refl _ _) (fun _ _ _ h k => h.trans k (fun _ hx => .inl hx)) ?stabg2 ?stepsg2 ?doneg2
        case htlg2 => simp only [List.drop_succ_cons, List.drop_zero]; rfl
        case hfrg2 => intro vals; simp only [putAll, dstAt, Act.put, List.getElem?_toArray, List.getElem?_cons_zero, List.getElem?_cons_succ, Option.bind_some, List.setIfInBounds_toArray, List.set_cons_zero, List.set_cons_succ]; rfl
        case stabg2 =>
          intro i v wa wb h
          try dsimp only
          split <;> first | exact id
        case stepsg2 =>
          refine ⟨?_, ?_, ?_, ?_, ?_, ?_, ?_, ?_, ?_, ?_, ?_, ?_, ?_, ?_, ?_, ?_, ?_, ?_, ?_, ?_, ?_, ?_, ?_, ?_, ?_, ?_, ?_, ?_, ?_, ?_, ?_, ?_, ?_, ?_, ?_, ?_, ?_, ?_, ?_, ?_, ?_, ?_, ?_, ?_, ?_, trivial⟩
          · intro vals wr hR hp K hK
            dsimp only at hK ⊢
            clear hp
            unfold RunsOp
            have tg := hR.blk (Blk.drew HNB.out) (by simp)
            obtain ⟨k0, kl⟩ := tg.facts1
            clear tg
            go_simp
            exact hK.out _ _ ⟨_, rfl, Only.refl _ _, rfl⟩
          · intro vals wr hR hp K hK
            dsimp only at hK ⊢
            clear hp
            unfold RunsOp
            have tg := hR.blk (Blk.drew HQB.out) (by simp)
            obtain ⟨k0, kl⟩ := tg.facts1
            clear tg
            go_simp
            exact hK.out _ _ ⟨_, rfl, Only.refl _ _, rfl⟩
          · intro vals wr hR hp K hK
            dsimp only at hK ⊢
            obtain ⟨p1, -⟩ := hp
            replace p1 := p1 rfl
            dsimp only at p1
            rw [p1] at hK ⊢
            clear p1
            unfold RunsOp
            go_simp
            exact hK.out _ _ ⟨_, rfl, Only.refl _ _, rfl⟩
          · intro vals wr hR hp K hK
            dsimp only at hK ⊢
            obtain ⟨p0, p2, -⟩ := hp
            replace p0 := p0 rfl
            replace p2 := p2 rfl
            dsimp only at p0 p2
            rw [p0, p2] at hK ⊢
            clear p0 p2
            unfold RunsOp
            have hge := HGE.out
            go_simp
            exact hK.out _ _ ⟨_, rfl, Only.refl _ _, rfl⟩
          · intro vals wr hR hp K hK
            dsimp only at hK ⊢
            obtain ⟨p3, -⟩ := hp
            replace p3 := p3 rfl
            dsimp only at p3
            rw [p3] at hK ⊢
            clear p3
            unfold RunsOp
            go_simp
            exact hK.out _ _ ⟨_, rfl, Only.refl _ _, rfl⟩
          · intro vals wr hR hp K hK
            dsimp only at hK ⊢
            obtain ⟨p4, -⟩ := hp
            replace p4 := p4 rfl
            dsimp only at p4
            rw [p4] at hK ⊢
            clear p4
            unfold RunsOp
            have tg := hR.blk (Blk.drew HPB.out) (by simp)
            obtain ⟨k0, k1, k2, k3, kl⟩ := tg.facts4
            clear tg
            go_simp
            exact hK.out _ _ ⟨_, rfl, Only.refl _ _, rfl⟩
          · intro vals wr hR hp K hK
            dsimp only at hK ⊢
            obtain ⟨p4, -⟩ := hp
            replace p4 := p4 rfl
            dsimp only at p4
            rw [p4] at hK ⊢
            clear p4
            unfold RunsOp
            have tg := hR.blk (Blk.drew HQB.out) (by simp)
            obtain ⟨k0, kl⟩ := tg.facts1
            clear tg
            go_simp
            exact hK.out _ _ ⟨_, rfl, Only.refl _ _, rfl⟩
          · intro vals wr hR hp K hK
            dsimp only at hK ⊢
            obtain ⟨p4, -⟩ := hp
            replace p4 := p4 rfl
            dsimp only at p4
            rw [p4] at hK ⊢
            clear p4
            unfold RunsOp
            have tg := hR.blk (Blk.drew HNB.out) (by simp)
            obtain ⟨k0, kl⟩ := tg.facts1
            clear tg
            go_simp
            exact hK.out _ _ ⟨_, rfl, Only.refl _ _, rfl⟩
          · intro vals wr hR hp K hK
            dsimp only at hK ⊢
            obtain ⟨p6, p7, p4, -⟩ := hp
            replace p6 := p6 rfl
            replace p7 := p7 rfl
            replace p4 := p4 rfl
            dsimp only at p6 p7 p4
            rw [p6, p7, p4] at hK ⊢
            clear p6 p7 p4
            unfold RunsOp
            go_simp
            exact hK.out _ _ ⟨_, rfl, Only.refl _ _, rfl⟩
          · intro vals wr hR hp K hK
            dsimp only at hK ⊢
            obtain ⟨p8, p4, -⟩ := hp
            replace p8 := p8 rfl
            replace p4 := p4 rfl
            dsimp only at p8 p4
            rw [p8, p4] at hK ⊢
            clear p8 p4
            unfold RunsOp
            go_simp
            exact hK.out _ _ ⟨_, rfl, Only.refl _ _, rfl⟩
          · intro vals wr hR hp K hK
            dsimp only at hK ⊢
            obtain ⟨p9, p4, -⟩ := hp
            replace p9 := p9 rfl
            replace p4 := p4 rfl
            dsimp only at p9 p4
            rw [p9, p4] at hK ⊢
            clear p9 p4
            unfold RunsOp
            go_simp
            exact hK.out _ _ ⟨_, rfl, Only.refl _ _, rfl⟩
          · intro vals wr hR hp K hK
            dsimp only at hK ⊢
            obtain ⟨p10, p4, -⟩ := hp
            replace p10 := p10 rfl
            replace p4 := p4 rfl
            dsimp only at p10 p4
            rw [p10, p4] at hK ⊢
            clear p10 p4
            unfold RunsOp
            have k0 := (hR.cell (p := ⟨g, k * 8, none⟩) HYX.out.1 (by simp)).trans HYX.out.2.1
            go_simp
            exact hK.out _ _ ⟨_, rfl, Only.refl _ _, rfl⟩
          · intro vals wr hR hp K hK
            dsimp only at hK ⊢
            obtain ⟨p4, -⟩ := hp
            replace p4 := p4 rfl
            dsimp only at p4
            rw [p4] at hK ⊢
            clear p4
            unfold RunsOp
            have tg := hR.blk (Blk.drew HQB.out) (by simp)
            obtain ⟨k0, kl⟩ := tg.facts1
            clear tg
            go_simp
            exact hK.out _ _ ⟨_, rfl, Only.refl _ _, rfl⟩
          · intro vals wr hR hp K hK
            dsimp only at hK ⊢
            obtain ⟨p4, -⟩ := hp
            replace p4 := p4 rfl
            dsimp only at p4
            rw [p4] at hK ⊢
            clear p4
            unfold RunsOp
            have tg := hR.blk (Blk.drew HNB.out) (by simp)
            obtain ⟨k0, kl⟩ := tg.facts1
            clear tg
            go_simp
            exact hK.out _ _ ⟨_, rfl, Only.refl _ _, rfl⟩
          · intro vals wr hR hp K hK
            dsimp only at hK ⊢
            obtain ⟨p12, p13, p4, -⟩ := hp
            replace p12 := p12 rfl
            replace p13 := p13 rfl
            replace p4 := p4 rfl
            dsimp only at p12 p13 p4
            rw [p12, p13, p4] at hK ⊢
            clear p12 p13 p4
            unfold RunsOp
            go_simp
            exact hK.out _ _ ⟨_, rfl, Only.refl _ _, rfl⟩
          · intro vals wr hR hp K hK
            dsimp only at hK ⊢
            obtain ⟨p14, p4, -⟩ := hp
            replace p14 := p14 rfl
            replace p4 := p4 rfl
            dsimp only at p14 p4
            rw [p14, p4] at hK ⊢
            clear p14 p4
            unfold RunsOp
            go_simp
            exact hK.out _ _ ⟨_, rfl, Only.refl _ _, rfl⟩
          · intro vals wr hR hp K hK
            dsimp only at hK ⊢
            obtain ⟨p15, p4, -⟩ := hp
            replace p15 := p15 rfl
            replace p4 := p4 rfl
            dsimp only at p15 p4
            rw [p15, p4] at hK ⊢
            clear p15 p4
            unfold RunsOp
            go_simp
            exact hK.out _ _ ⟨_, rfl, Only.refl _ _, rfl⟩
          · intro vals wr hR hp K hK
            dsimp only at hK ⊢
            obtain ⟨p16, p4, -⟩ := hp
            replace p16 := p16 rfl
            replace p4 := p4 rfl
            dsimp only at p16 p4
            rw [p16, p4] at hK ⊢
            clear p16 p4
            unfold RunsOp
            have k1 := (hR.cell (p := ⟨g, k * 8 + 1, none⟩) HYX.out.1 (by simp)).trans HYX.out.2.2.1
            go_simp
            exact hK.out _ _ ⟨_, rfl, Only.refl _ _, rfl⟩
          · intro vals wr hR hp K hK
            dsimp only at hK ⊢
            obtain ⟨p4, -⟩ := hp
            replace p4 := p4 rfl
            dsimp only at p4
            rw [p4] at hK ⊢
            clear p4
            unfold RunsOp
            have tg := hR.blk (Blk.drew HQB.out) (by simp)
            obtain ⟨k0, kl⟩ := tg.facts1
            clear tg
            go_simp
            exact hK.out _ _ ⟨_, rfl, Only.refl _ _, rfl⟩
          · intro vals wr hR hp K hK
            dsimp only at hK ⊢
            obtain ⟨p4, -⟩ := hp
            replace p4 := p4 rfl
            dsimp only at p4
            rw [p4] at hK ⊢
            clear p4
            unfold RunsOp
            have tg := hR.blk (Blk.drew HNB.out) (by simp)
            obtain ⟨k0, kl⟩ := tg.facts1
            clear tg
            go_simp
            exact hK.out _ _ ⟨_, rfl, Only.refl _ _, rfl⟩
          · intro vals wr hR hp K hK
            dsimp only at hK ⊢
            obtain ⟨p18, p19, p4, -⟩ := hp
            replace p18 := p18 rfl
            replace p19 := p19 rfl
            replace p4 := p4 rfl
            dsimp only at p18 p19 p4
            rw [p18, p19, p4] at hK ⊢
            clear p18 p19 p4
            unfold RunsOp
            go_simp
            exact hK.out _ _ ⟨_, rfl, Only.refl _ _, rfl⟩
          · intro vals wr hR hp K hK
            dsimp only at hK ⊢
            obtain ⟨p20, p4, -⟩ := hp
            replace p20 := p20 rfl
            replace p4 := p4 rfl
            dsimp only at p20 p4
            rw [p20, p4] at hK ⊢
            clear p20 p4
            unfold RunsOp
            go_simp
            exact hK.out _ _ ⟨_, rfl, Only.refl _ _, rfl⟩
          · intro vals wr hR hp K hK
            dsimp only at hK ⊢
            obtain ⟨p21, p4, -⟩ := hp
            replace p21 := p21 rfl
            replace p4 := p4 rfl
            dsimp only at p21 p4
            rw [p21, p4] at hK ⊢
            clear p21 p4
            unfold RunsOp
            go_simp
            exact hK.out _ _ ⟨_, rfl, Only.refl _ _, rfl⟩
          · intro vals wr hR hp K hK
            dsimp only at hK ⊢
            obtain ⟨p22, p4, -⟩ := hp
            replace p22 := p22 rfl
            replace p4 := p4 rfl
            dsimp only at p22 p4
            rw [p22, p4] at hK ⊢
            clear p22 p4
            unfold RunsOp
            have k2 := (hR.cell (p := ⟨g, k * 8 + 2, none⟩) HYX.out.1 (by simp)).trans HYX.out.2.2.2.1
            go_simp
            exact hK.out _ _ ⟨_, rfl, Only.refl _ _, rfl⟩
          · intro vals wr hR hp K hK
            dsimp only at hK ⊢
            obtain ⟨p11, p17, p23, p4, -⟩ := hp
            replace p11 := p11 rfl
            replace p17 := p17 rfl
            replace p23 := p23 rfl
            replace p4 := p4 rfl
            dsimp only at p11 p17 p23 p4
            rw [p11, p17, p23, p4] at hK ⊢
            clear p11 p17 p23 p4
            unfold RunsOp
            go_simp
            exact hK.out _ _ ⟨_, rfl, Only.refl _ _, rfl⟩
          · intro vals wr hR hp K hK
            dsimp only at hK ⊢
            obtain ⟨p5, p24, p4, -⟩ := hp
            replace p5 := p5 rfl
            replace p24 := p24 rfl
            replace p4 := p4 rfl
            dsimp only at p5 p24 p4
            rw [p5, p24, p4] at hK ⊢
            clear p5 p24 p4
            unfold RunsOp
            have hne := HNE.out
            go_simp
            exact hK.out _ _ ⟨_, rfl, Only.refl _ _, rfl⟩
          · intro vals wr hR hp K hK
            dsimp only at hK ⊢
            obtain ⟨p4, p25, -⟩ := hp
            replace p4 := p4 rfl
            replace p25 := p25 rfl
            dsimp only at p4 p25
            rw [p4, p25] at hK ⊢
            clear p4 p25
            unfold RunsOp
            go_simp
            exact hK.out _ _ ⟨_, rfl, Only.refl _ _, rfl⟩
          · intro vals wr hR hp K hK
            dsimp only at hK ⊢
            obtain ⟨p26, -, -⟩ := hp
            replace p26 := p26 rfl
            dsimp only at p26
            rw [p26] at hK ⊢
            clear p26
            unfold RunsOp
            go_simp
            exact hK.out _ _ ⟨_, rfl, Only.refl _ _, rfl⟩
          · intro vals wr hR hp K hK
            dsimp only at hK ⊢
            obtain ⟨p27, -⟩ := hp
            replace p27 := p27 rfl
            dsimp only at p27
            rw [p27] at hK ⊢
            clear p27
            unfold RunsOp
            have tg := hR.blk (Blk.drew HXB.out) (by simp)
            obtain ⟨k0, k1, k2, k3, k4, kl⟩ := tg.facts5
            clear tg
            go_simp
            exact hK.out _ _ ⟨_, rfl, Only.refl _ _, rfl⟩
          · intro vals wr hR hp K hK
            dsimp only at hK ⊢
            obtain ⟨p27, -⟩ := hp
            replace p27 := p27 rfl
            dsimp only at p27
            rw [p27] at hK ⊢
            clear p27
            unfold RunsOp
            have tg := hR.blk (Blk.drew HQB.out) (by simp)
            obtain ⟨k0, kl⟩ := tg.facts1
            clear tg
            go_simp
            exact hK.out _ _ ⟨_, rfl, Only.refl _ _, rfl⟩
          · intro vals wr hR hp K hK
            dsimp only at hK ⊢
            obtain ⟨p27, -⟩ := hp
            replace p27 := p27 rfl
            dsimp only at p27
            rw [p27] at hK ⊢
            clear p27
            unfold RunsOp
            have tg := hR.blk (Blk.drew HNB.out) (by simp)
            obtain ⟨k0, kl⟩ := tg.facts1
            clear tg
            go_simp
            exact hK.out _ _ ⟨_, rfl, Only.refl _ _, rfl⟩
          · intro vals wr hR hp K hK
            dsimp only at hK ⊢
            obtain ⟨p29, p30, p27, -⟩ := hp
            replace p29 := p29 rfl
            replace p30 := p30 rfl
            replace p27 := p27 rfl
            dsimp only at p29 p30 p27
            rw [p29, p30, p27] at hK ⊢
            clear p29 p30 p27
            unfold RunsOp
            go_simp
            exact hK.out _ _ ⟨_, rfl, Only.refl _ _, rfl⟩
          · intro vals wr hR hp K hK
            dsimp only at hK ⊢
            obtain ⟨p31, p27, -⟩ := hp
            replace p31 := p31 rfl
            replace p27 := p27 rfl
            dsimp only at p31 p27
            rw [p31, p27] at hK ⊢
            clear p31 p27
            unfold RunsOp
            go_simp
            exact hK.out _ _ ⟨_, rfl, Only.refl _ _, rfl⟩
          · intro vals wr hR hp K hK
            dsimp only at hK ⊢
            obtain ⟨p32, p27, -⟩ := hp
            replace p32 := p32 rfl
            replace p27 := p27 rfl
            dsimp only at p32 p27
            rw [p32, p27] at hK ⊢
            clear p32 p27
            unfold RunsOp
            have k3 := (hR.cell (p := ⟨g, k * 8 + 3, none⟩) HYX.out.1 (by simp)).trans HYX.out.2.2.2.2.1
            have k4 := (hR.cell (p := ⟨g, k * 8 + 4, none⟩) HYX.out.1 (by simp)).trans HYX.out.2.2.2.2.2.1
            have k5 := (hR.cell (p := ⟨g, k * 8 + 5, none⟩) HYX.out.1 (by simp)).trans HYX.out.2.2.2.2.2.2.1
            have k6 := (hR.cell (p := ⟨g, k * 8 + 6, none⟩) HYX.out.1 (by simp)).trans HYX.out.2.2.2.2.2.2.2.1
            have k7 := (hR.cell (p := ⟨g, k * 8 + 7, none⟩) HYX.out.1 (by simp)).trans HYX.out.2.2.2.2.2.2.2.2
            go_simp
            exact hK.out _ _ ⟨_, rfl, Only.refl _ _, rfl⟩
          · intro vals wr hR hp K hK
            dsimp only at hK ⊢
            obtain ⟨p28, p33, p27, -, -⟩ := hp
            replace p28 := p28 rfl
            replace p33 := p33 rfl
            replace p27 := p27 rfl
            dsimp only at p28 p33 p27
            rw [p28, p33, p27] at hK ⊢
            clear p28 p33 p27
            unfold RunsOp
            go_simp
            refine (HCA.out _ (((Only.refl [] X).drew).trans hR (by simp))).mono ?_
            rintro e w2 ⟨rfl, o2⟩
            exact hK.out _ _ ⟨_, rfl, o2, rfl⟩
          · intro vals wr hR hp K hK
            dsimp only at hK ⊢
            obtain ⟨p34, p27, -⟩ := hp
            replace p34 := p34 rfl
            replace p27 := p27 rfl
            dsimp only at p34 p27
            rw [p34, p27] at hK ⊢
            clear p34 p27
            unfold RunsOp
            go_simp
            exact hK.out _ _ ⟨_, rfl, Only.refl _ _, rfl⟩
          · intro vals wr hR hp K hK
            dsimp only at hK ⊢
            obtain ⟨p27, p35, -⟩ := hp
            replace p27 := p27 rfl
            replace p35 := p35 rfl
            dsimp only at p27 p35
            rw [p27, p35] at hK ⊢
            clear p27 p35
            unfold RunsOp
            go_simp
            exact hK.out _ _ ⟨_, rfl, Only.refl _ _, rfl⟩
          · intro vals wr hR hp K hK
            dsimp only at hK ⊢
            obtain ⟨p36, -, -⟩ := hp
            replace p36 := p36 rfl
            dsimp only at p36
            rw [p36] at hK ⊢
            clear p36
            unfold RunsOp
            go_simp
            exact hK.out _ _ ⟨_, rfl, Only.refl _ _, rfl⟩
          · intro vals wr hR hp K hK
            dsimp only at hK ⊢
            obtain ⟨p37, -⟩ := hp
            replace p37 := p37 rfl
            dsimp only at p37
            rw [p37] at hK ⊢
            clear p37
            unfold RunsOp
            have tg := hR.blk (Blk.drew HTB.out) (by simp)
            obtain ⟨k0, kl⟩ := tg.facts1
            clear tg
            go_simp
            exact hK.out _ _ ⟨_, rfl, Only.refl _ _, rfl⟩
          · intro vals wr hR hp K hK
            dsimp only at hK ⊢
            obtain ⟨p38, p37, -, -⟩ := hp
            replace p38 := p38 rfl
            replace p37 := p37 rfl
            dsimp only at p38 p37
            rw [p38, p37] at hK ⊢
            clear p38 p37
            unfold RunsOp
            go_simp
            exact hK.out _ _ ⟨_, rfl, Only.refl _ _, rfl⟩
          · intro vals wr hR hp K hK
            dsimp only at hK ⊢
            obtain ⟨p39, -⟩ := hp
            replace p39 := p39 rfl
            dsimp only at p39
            rw [p39] at hK ⊢
            clear p39
            unfold RunsOp
            have tg := hR.blk (Blk.drew HXB.out) (by simp)
            obtain ⟨k0, k1, k2, k3, k4, kl⟩ := tg.facts5
            clear tg
            go_simp
            exact hK.out _ _ ⟨_, rfl, Only.refl _ _, trivial⟩
          · intro vals wr hR hp K hK
            dsimp only at hK ⊢
            obtain ⟨-, p39, -, -⟩ := hp
            replace p39 := p39 rfl
            dsimp only at p39
            rw [p39] at hK ⊢
            clear p39
            unfold RunsOp
            go_simp
            exact hK.out _ _ ⟨_, rfl, Only.refl _ _, trivial⟩
          · intro vals wr hR hp K hK
            dsimp only at hK ⊢
            obtain ⟨-, p39, -⟩ := hp
            replace p39 := p39 rfl
            dsimp only at p39
            rw [p39] at hK ⊢
            clear p39
            unfold RunsOp
            go_simp
            exact hK.out _ _ ⟨_, rfl, Only.refl _ _, trivial⟩
          · intro vals wr hR hp K hK
            dsimp only at hK ⊢
            obtain ⟨p39, -, p37, -⟩ := hp
            replace p39 := p39 rfl
            replace p37 := p37 rfl
            dsimp only at p39 p37
            rw [p39, p37] at hK ⊢
            clear p39 p37
            unfold RunsOp
            go_simp
            exact hK.out _ _ ⟨_, rfl, Only.refl _ _, rfl⟩
          · intro vals wr hR hp K hK
            dsimp only at hK ⊢
            obtain ⟨p37, p43, -⟩ := hp
            replace p37 := p37 rfl
            replace p43 := p43 rfl
            dsimp only at p37 p43
            rw [p37, p43] at hK ⊢
            clear p37 p43
            unfold RunsOp
            go_simp
            exact hK.out _ _ ⟨_, rfl, Only.refl _ _, rfl⟩
        case doneg2 =>
          intro vals wd hR hF
          have f0 : vals 0 = .int .i64 (k : Int) := hF 0 (by decide)
          have f1 : vals 1 = .slice (some ⟨g, 0, none⟩) jr cw := hF 1 (by decide)
          have f2 : vals 2 = .int .i64 (jr : Nat) := hF 2 (by decide)
          have f3 : vals 3 = .bool false := hF 3 (by decide)
          have f4 : vals 4 = .bool false := hF 4 (by decide)
          have f5 : vals 5 = .agg #[.int .i64 sm, .int .i64 sp, .int .i64 si, .int .i64 0] := hF 5 (by decide)
          have f6 : vals 6 = .slice (some ⟨g, 0, none⟩) jr cw := hF 6 (by decide)
          have f7 : vals 7 = .int .i64 (k : Int) := hF 7 (by decide)
          have f8 : vals 8 = .pointer (some ⟨g, k * 8, none⟩) := hF 8 (by decide)
          have f9 : vals 9 = .pointer (some ⟨g, k * 8, none⟩) := hF 9 (by decide)
          have f10 : vals 10 = .pointer (some ⟨g, k * 8, none⟩) := hF 10 (by decide)
          have f11 : vals 11 = .int .i64 (sm : Nat) := hF 11 (by decide)
          have f12 : vals 12 = .slice (some ⟨g, 0, none⟩) jr cw := hF 12 (by decide)
          have f13 : vals 13 = .int .i64 (k : Int) := hF 13 (by decide)
          have f14 : vals 14 = .pointer (some ⟨g, k * 8, none⟩) := hF 14 (by decide)
          have f15 : vals 15 = .pointer (some ⟨g, k * 8, none⟩) := hF 15 (by decide)
          have f16 : vals 16 = .pointer (some ⟨g, k * 8 + 1, none⟩) := hF 16 (by decide)
          have f17 : vals 17 = .int .i64 (sp : Nat) := hF 17 (by decide)
          have f18 : vals 18 = .slice (some ⟨g, 0, none⟩) jr cw := hF 18 (by decide)
          have f19 : vals 19 = .int .i64 (k : Int) := hF 19 (by decide)
          have f20 : vals 20 = .pointer (some ⟨g, k * 8, none⟩) := hF 20 (by decide)
          have f21 : vals 21 = .pointer (some ⟨g, k * 8, none⟩) := hF 21 (by decide)
          have f22 : vals 22 = .pointer (some ⟨g, k * 8 + 2, none⟩) := hF 22 (by decide)
          have f23 : vals 23 = .int .i64 (si : Nat) := hF 23 (by decide)
          have f24 : vals 24 = .agg #[.int .i64 sm, .int .i64 sp, .int .i64 si, .int .i64 0] := hF 24 (by decide)
          have f25 : vals 25 = .bool false := hF 25 (by decide)
          have f26 : vals 26 = .bool false := hF 26 (by decide)
          have f27 : vals 27 = .bool false := hF 27 (by decide)
          have f28 : vals 28 = .agg #[.int .i64 xop, .int .i64 xn, .string xnm, .string xsb, .slice xA xargs.length xcap] := hF 28 (by decide)
          have f29 : vals 29 = .slice (some ⟨g, 0, none⟩) jr cw := hF 29 (by decide)
          have f30 : vals 30 = .int .i64 (k : Int) := hF 30 (by decide)
          have f31 : vals 31 = .pointer (some ⟨g, k * 8, none⟩) := hF 31 (by decide)
          have f32 : vals 32 = .pointer (some ⟨g, k * 8 + 3, none⟩) := hF 32 (by decide)
          have f33 : vals 33 = .agg #[.int .i64 yop, .int .i64 yn, .string ynm, .string ysb, .slice yA yargs.length ycap] := hF 33 (by decide)
          have f34 : vals 34 = .bool true := hF 34 (by decide)
          have f35 : vals 35 = .bool false := hF 35 (by decide)
          have f36 : vals 36 = .bool false := hF 36 (by decide)
          have f37 : vals 37 = .bool false := hF 37 (by decide)
          have f38 : vals 38 = .bool false := hF 38 (by decide)
          have f39 : vals 39 = .bool false := hF 39 (by decide)
          have f43 : vals 43 = .bool false := hF 43 (by decide)
          have f44 : vals 44 = .bool false := hF 44 (by decide)
          rw [f0, f1, f2, f3, f4, f5, f6, f7, f8, f9, f10, f11, f12, f13, f14, f15, f16, f17, f18, f19, f20, f21, f22, f23, f24, f25, f26, f27, f28, f29, f30, f31, f32, f33, f34, f35, f36, f37, f38, f39, f43, f44]
          clear f0 f1 f2 f3 f4 f5 f6 f7 f8 f9 f10 f11 f12 f13 f14 f15 f16 f17 f18 f19 f20 f21 f22 f23 f24 f25 f26 f27 f28 f29 f30 f31 f32 f33 f34 f35 f36 f37 f38 f39 f43 f44
          have oXd : Only [] X wd := ((Only.refl [] X).drew).trans hR (by simp)
          have HNd := Lib.hid (oXd.blk HNB.out (by simp))
          have HRd := Lib.hid (oXd.blk HRB.out (by simp))
          have HSd := Lib.hid (oXd.blk HSB.out (by simp))
          have HOd := Lib.hid (HOX.out.trans oXd (by simp))
          have HXd := Lib.hid oXd
          clear hR hF oXd
          obtain ⟨n0, nl⟩ := HNd.out.facts1
          have nfr := HNd.out.frozen 0
          obtain ⟨s0, sl⟩ := HSd.out.facts1
          obtain ⟨r0, rl⟩ := HRd.out.facts1
          have rfr := HRd.out.frozen 0
          have hne1 : ¬ w8.heap.size + 1 = w.heap.size + 1 := by omega
          have hne2 : ¬ w8.heap.size + 1 = w.heap.size + 1 + 1 := by omega
          have hne3 : ¬ w.heap.size + 1 = w8.heap.size + 1 := by omega
          have hne4 : ¬ w.heap.size + 1 + 1 = w8.heap.size + 1 := by omega
          have hkb : (k : Int) ≤ 1048576 := by have := HCNT.out; omega
          by_cases hbr : z ≤ (k : Int) + 1
          · have hd : decide (z ≤ (k : Int) + 1) = true := by simpa using hbr
            gi_wp2_with (fail)
            have hr2 := (Blk.far HRd.out (p := ⟨w8.heap.size + 1, 0, none⟩) (by simpa using hne4) (.int .i64 ((k : Int) + 1))).set_ 0 (.bool true)
            have o1 : Only [w.heap.size + 1 + 1, w8.heap.size + 1] wd ((wd.setCell ⟨w8.heap.size + 1, 0, none⟩ (.int .i64 ((k : Int) + 1))).setCell ⟨w.heap.size + 1 + 1, 0, none⟩ (.bool true)) := ((Only.refl _ wd).setCell (.inl (by simp)) _).setCell (.inl (by simp)) _
            exact ⟨⟨rfl, by simpa using hr2, HOd.out.trans o1 (fun b hb => .inl hb)⟩, (HXd.out.mono (fun _ h => by simp at h)).trans o1 (fun b hb => .inl hb)⟩
          · have hd : decide (z ≤ (k : Int) + 1) = false := by simpa using hbr
            gi_wp2_with (fail)
            have hn2 := HNd.out.set_ 0 (.int .i64 ((k : Int) + 1))
            have hr2 := Blk.far HRd.out (p := ⟨w8.heap.size + 1, 0, none⟩) (by simpa using hne4) (.int .i64 ((k : Int) + 1))
            have o1 : Only [w.heap.size + 1 + 1, w8.heap.size + 1] wd (wd.setCell ⟨w8.heap.size + 1, 0, none⟩ (.int .i64 ((k : Int) + 1))) := (Only.refl _ wd).setCell (.inl (by simp)) _
            refine ⟨⟨_, ⟨by simpa using hn2, hr2, rfl, HOd.out.trans o1 (fun b hb => .inl hb)⟩, fun b hb => ⟨.inl hb, ?_⟩⟩, (HXd.out.mono (fun _ h => by simp at h)).trans o1 (fun b hb => .inl hb)⟩
            simp at hb
            rcases hb with rfl | rfl
            · exact hr2.lt
            · exact hn2.lt
      · replace HCB := Lib.hid (HCB.out rfl)
        refine wpIn_region_relR 45 (Only []) (fr := ?frg1) (tl := ?tlg1) (fun iq v wv => match iq with
          | 0 => v = .int .i64 (k : Int)
          | 1 => v = .slice (some ⟨g, 0, none⟩) jr cw
          | 2 => v = .int .i64 (jr : Nat)
          | 3 => v = .bool false
          | 4 => v = .bool false
          | 5 => v = .agg #[.int .i64 sm, .int .i64 sp, .int .i64 si, .int .i64 0]
          | 6 => v = .slice (some ⟨g, 0, none⟩) jr cw
          | 7 => v = .int .i64 (k : Int)
          | 8 => v = .pointer (some ⟨g, k * 8, none⟩)
          | 9 => v = .pointer (some ⟨g, k * 8, none⟩)
          | 10 => v = .pointer (some ⟨g, k * 8, none⟩)
          | 11 => v = .int .i64 (sm : Nat)
          | 12 => v = .slice (some ⟨g, 0, none⟩) jr cw
          | 13 => v = .int .i64 (k : Int)
          | 14 => v = .pointer (some ⟨g, k * 8, none⟩)
          | 15 => v = .pointer (some ⟨g, k * 8, none⟩)
          | 16 => v = .pointer (some ⟨g, k * 8 + 1, none⟩)
          | 17 => v = .int .i64 (sp : Nat)
          | 18 => v = .slice (some ⟨g, 0, none⟩) jr cw
          | 19 => v = .int .i64 (k : Int)
          | 20 => v = .pointer (some ⟨g, k * 8, none⟩)
          | 21 => v = .pointer (some ⟨g, k * 8, none⟩)
          | 22 => v = .pointer (some ⟨g, k * 8 + 2, none⟩)
          | 23 => v = .int .i64 (si : Nat)
          | 24 => v = .agg #[.int .i64 sm, .int .i64 sp, .int .i64 si, .int .i64 0]
          | 25 => v = .bool false
          | 26 => v = .bool false
          | 27 => v = .bool false
          | 28 => v = .agg #[.int .i64 xop, .int .i64 xn, .string xnm, .string xsb, .slice xA xargs.length xcap]
          | 29 => v = .slice (some ⟨g, 0, none⟩) jr cw
          | 30 => v = .int .i64 (k : Int)
          | 31 => v = .pointer (some ⟨g, k * 8, none⟩)
          | 32 => v = .pointer (some ⟨g, k * 8 + 3, none⟩)
          | 33 => v = .agg #[.int .i64 yop, .int .i64 yn, .string ynm, .string ysb, .slice yA yargs.length ycap]
          | 34 => v = .bool true
          | 35 => v = .bool false
          | 36 => v = .bool false
          | 37 => v = .bool false
          | 38 => v = .bool true
          | 39 => v = .bool true
          | 40 => v = .agg #[.int .i64 xop, .int .i64 xn, .string xnm, .string xsb, .slice xA xargs.length xcap]
          | 41 => v = .bool true
          | 42 => v = .bool false
          | 43 => v = .bool false
          | 44 => v = .bool false
          | _ => True) (.inr ⟨_, rfl⟩) (by kernel_rfl) (by kernel_rfl) (by kernel_rfl) (by kernel_rfl) (by kernel_rfl) (by kernel_rfl) (by decide) ?htlg1 ?hfrg1 (Only.refl _ _) (fun _ _ _ h k => h.trans k (fun _ hx => .inl hx)) ?stabg1 ?stepsg1 ?doneg1
        case htlg1 => simp only [List.drop_succ_cons, List.drop_zero]; rfl
        case hfrg1 => intro vals; simp only [putAll, dstAt, Act.put, List.getElem?_toArray, List.getElem?_cons_zero, List.getElem?_cons_succ, Option.bind_some, List.setIfInBounds_toArray, List.set_cons_zero, List.set_cons_succ]; rfl
        case stabg1 =>
          intro i v wa wb h
          try dsimp only
          split <;> first | exact id
        case stepsg1 =>
          refine ⟨?_, ?_, ?_, ?_, ?_, ?_, ?_, ?_, ?_, ?_, ?_, ?_, ?_, ?_, ?_, ?_, ?_, ?_, ?_, ?_, ?_, ?_, ?_, ?_, ?_, ?_, ?_, ?_, ?_, ?_, ?_, ?_, ?_, ?_, ?_, ?_, ?_, ?_, ?_, ?_, ?_, ?_, ?_, ?_, ?_, trivial⟩
          · intro vals wr hR hp K hK
            dsimp only at hK ⊢
            clear hp
            unfold RunsOp
            have tg := hR.blk (Blk.drew HNB.out) (by simp)
            obtain ⟨k0, kl⟩ := tg.facts1
            clear tg
            go_simp
            exact hK.out _ _ ⟨_, rfl, Only.refl _ _, rfl⟩
          · intro vals wr hR hp K hK
            dsimp only at hK ⊢
            clear hp
            unfold RunsOp
            have tg := hR.blk (Blk.drew HQB.out) (by simp)
            obtain ⟨k0, kl⟩ := tg.facts1
            clear tg
            go_simp
            exact hK.out _ _ ⟨_, rfl, Only.refl _ _, rfl⟩
          · intro vals wr hR hp K hK
            dsimp only at hK ⊢
            obtain ⟨p1, -⟩ := hp
            replace p1 := p1 rfl
            dsimp only at p1
            rw [p1] at hK ⊢
            clear p1
            unfold RunsOp
            go_simp
            exact hK.out _ _ ⟨_, rfl, Only.refl _ _, rfl⟩
          · intro vals wr hR hp K hK
            dsimp only at hK ⊢
            obtain ⟨p0, p2, -⟩ := hp
            replace p0 := p0 rfl
            replace p2 := p2 rfl
            dsimp only at p0 p2
            rw [p0, p2] at hK ⊢
            clear p0 p2
            unfold RunsOp
            have hge := HGE.out
            go_simp
            exact hK.out _ _ ⟨_, rfl, Only.refl _ _, rfl⟩
          · intro vals wr hR hp K hK
            dsimp only at hK ⊢
            obtain ⟨p3, -⟩ := hp
            replace p3 := p3 rfl
            dsimp only at p3
            rw [p3] at hK ⊢
            clear p3
            unfold RunsOp
            go_simp
            exact hK.out _ _ ⟨_, rfl, Only.refl _ _, rfl⟩
          · intro vals wr hR hp K hK
            dsimp only at hK ⊢
            obtain ⟨p4, -⟩ := hp
            replace p4 := p4 rfl
            dsimp only at p4
            rw [p4] at hK ⊢
            clear p4
            unfold RunsOp
            have tg := hR.blk (Blk.drew HPB.out) (by simp)
            obtain ⟨k0, k1, k2, k3, kl⟩ := tg.facts4
            clear tg
            go_simp
            exact hK.out _ _ ⟨_, rfl, Only.refl _ _, rfl⟩
          · intro vals wr hR hp K hK
            dsimp only at hK ⊢
            obtain ⟨p4, -⟩ := hp
            replace p4 := p4 rfl
            dsimp only at p4
            rw [p4] at hK ⊢
            clear p4
            unfold RunsOp
            have tg := hR.blk (Blk.drew HQB.out) (by simp)
            obtain ⟨k0, kl⟩ := tg.facts1
            clear tg
            go_simp
            exact hK.out _ _ ⟨_, rfl, Only.refl _ _, rfl⟩
          · intro vals wr hR hp K hK
            dsimp only at hK ⊢
            obtain ⟨p4, -⟩ := hp
            replace p4 := p4 rfl
            dsimp only at p4
            rw [p4] at hK ⊢
            clear p4
            unfold RunsOp
            have tg := hR.blk (Blk.drew HNB.out) (by simp)
            obtain ⟨k0, kl⟩ := tg.facts1
            clear tg
            go_simp
            exact hK.out _ _ ⟨_, rfl, Only.refl _ _, rfl⟩
          · intro vals wr hR hp K hK
            dsimp only at hK ⊢
            obtain ⟨p6, p7, p4, -⟩ := hp
            replace p6 := p6 rfl
            replace p7 := p7 rfl
            replace p4 := p4 rfl
            dsimp only at p6 p7 p4
            rw [p6, p7, p4] at hK ⊢
            clear p6 p7 p4
            unfold RunsOp
            go_simp
            exact hK.out _ _ ⟨_, rfl, Only.refl _ _, rfl⟩
          · intro vals wr hR hp K hK
            dsimp only at hK ⊢
            obtain ⟨p8, p4, -⟩ := hp
            replace p8 := p8 rfl
            replace p4 := p4 rfl
            dsimp only at p8 p4
            rw [p8, p4] at hK ⊢
            clear p8 p4
            unfold RunsOp
            go_simp
            exact hK.out _ _ ⟨_, rfl, Only.refl _ _, rfl⟩
          · intro vals wr hR hp K hK
            dsimp only at hK ⊢
            obtain ⟨p9, p4, -⟩ := hp
            replace p9 := p9 rfl
            replace p4 := p4 rfl
            dsimp only at p9 p4
            rw [p9, p4] at hK ⊢
            clear p9 p4
            unfold RunsOp
            go_simp
            exact hK.out _ _ ⟨_, rfl, Only.refl _ _, rfl⟩
          · intro vals wr hR hp K hK
            dsimp only at hK ⊢
            obtain ⟨p10, p4, -⟩ := hp
            replace p10 := p10 rfl
            replace p4 := p4 rfl
            dsimp only at p10 p4
            rw [p10, p4] at hK ⊢
            clear p10 p4
            unfold RunsOp
            have k0 := (hR.cell (p := ⟨g, k * 8, none⟩) HYX.out.1 (by simp)).trans HYX.out.2.1
            go_simp
            exact hK.out _ _ ⟨_, rfl, Only.refl _ _, rfl⟩
          · intro vals wr hR hp K hK
            dsimp only at hK ⊢
            obtain ⟨p4, -⟩ := hp
            replace p4 := p4 rfl
            dsimp only at p4
            rw [p4] at hK ⊢
            clear p4
            unfold RunsOp
            have tg := hR.blk (Blk.drew HQB.out) (by simp)
            obtain ⟨k0, kl⟩ := tg.facts1
            clear tg
            go_simp
            exact hK.out _ _ ⟨_, rfl, Only.refl _ _, rfl⟩
          · intro vals wr hR hp K hK
            dsimp only at hK ⊢
            obtain ⟨p4, -⟩ := hp
            replace p4 := p4 rfl
            dsimp only at p4
            rw [p4] at hK ⊢
            clear p4
            unfold RunsOp
            have tg := hR.blk (Blk.drew HNB.out) (by simp)
            obtain ⟨k0, kl⟩ := tg.facts1
            clear tg
            go_simp
            exact hK.out _ _ ⟨_, rfl, Only.refl _ _, rfl⟩
          · intro vals wr hR hp K hK
            dsimp only at hK ⊢
            obtain ⟨p12, p13, p4, -⟩ := hp
            replace p12 := p12 rfl
            replace p13 := p13 rfl
            replace p4 := p4 rfl
            dsimp only at p12 p13 p4
            rw [p12, p13, p4] at hK ⊢
            clear p12 p13 p4
            unfold RunsOp
            go_simp
            exact hK.out _ _ ⟨_, rfl, Only.refl _ _, rfl⟩
          · intro vals wr hR hp K hK
            dsimp only at hK ⊢
            obtain ⟨p14, p4, -⟩ := hp
            replace p14 := p14 rfl
            replace p4 := p4 rfl
            dsimp only at p14 p4
            rw [p14, p4] at hK ⊢
            clear p14 p4
            unfold RunsOp
            go_simp
            exact hK.out _ _ ⟨_, rfl, Only.refl _ _, rfl⟩
          · intro vals wr hR hp K hK
            dsimp only at hK ⊢
            obtain ⟨p15, p4, -⟩ := hp
            replace p15 := p15 rfl
            replace p4 := p4 rfl
            dsimp only at p15 p4
            rw [p15, p4] at hK ⊢
            clear p15 p4
            unfold RunsOp
            go_simp
            exact hK.out _ _ ⟨_, rfl, Only.refl _ _, rfl⟩
          · intro vals wr hR hp K hK
            dsimp only at hK ⊢
            obtain ⟨p16, p4, -⟩ := hp
            replace p16 := p16 rfl
            replace p4 := p4 rfl
            dsimp only at p16 p4
            rw [p16, p4] at hK ⊢
            clear p16 p4
            unfold RunsOp
            have k1 := (hR.cell (p := ⟨g, k * 8 + 1, none⟩) HYX.out.1 (by simp)).trans HYX.out.2.2.1
            go_simp
            exact hK.out _ _ ⟨_, rfl, Only.refl _ _, rfl⟩
          · intro vals wr hR hp K hK
            dsimp only at hK ⊢
            obtain ⟨p4, -⟩ := hp
            replace p4 := p4 rfl
            dsimp only at p4
            rw [p4] at hK ⊢
            clear p4
            unfold RunsOp
            have tg := hR.blk (Blk.drew HQB.out) (by simp)
            obtain ⟨k0, kl⟩ := tg.facts1
            clear tg
            go_simp
            exact hK.out _ _ ⟨_, rfl, Only.refl _ _, rfl⟩
          · intro vals wr hR hp K hK
            dsimp only at hK ⊢
            obtain ⟨p4, -⟩ := hp
            replace p4 := p4 rfl
            dsimp only at p4
            rw [p4] at hK ⊢
            clear p4
            unfold RunsOp
            have tg := hR.blk (Blk.drew HNB.out) (by simp)
            obtain ⟨k0, kl⟩ := tg.facts1
            clear tg
            go_simp
            exact hK.out _ _ ⟨_, rfl, Only.refl _ _, rfl⟩
          · intro vals wr hR hp K hK
            dsimp only at hK ⊢
            obtain ⟨p18, p19, p4, -⟩ := hp
            replace p18 := p18 rfl
            replace p19 := p19 rfl
            replace p4 := p4 rfl
            dsimp only at p18 p19 p4
            rw [p18, p19, p4] at hK ⊢
            clear p18 p19 p4
            unfold RunsOp
            go_simp
            exact hK.out _ _ ⟨_, rfl, Only.refl _ _, rfl⟩
          · intro vals wr hR hp K hK
            dsimp only at hK ⊢
            obtain ⟨p20, p4, -⟩ := hp
            replace p20 := p20 rfl
            replace p4 := p4 rfl
            dsimp only at p20 p4
            rw [p20, p4] at hK ⊢
            clear p20 p4
            unfold RunsOp
            go_simp
            exact hK.out _ _ ⟨_, rfl, Only.refl _ _, rfl⟩
          · intro vals wr hR hp K hK
            dsimp only at hK ⊢
            obtain ⟨p21, p4, -⟩ := hp
            replace p21 := p21 rfl
            replace p4 := p4 rfl
            dsimp only at p21 p4
            rw [p21, p4] at hK ⊢
            clear p21 p4
            unfold RunsOp
            go_simp
            exact hK.out _ _ ⟨_, rfl, Only.refl _ _, rfl⟩
          · intro vals wr hR hp K hK
            dsimp only at hK ⊢
            obtain ⟨p22, p4, -⟩ := hp
            replace p22 := p22 rfl
            replace p4 := p4 rfl
            dsimp only at p22 p4
            rw [p22, p4] at hK ⊢
            clear p22 p4
            unfold RunsOp
            have k2 := (hR.cell (p := ⟨g, k * 8 + 2, none⟩) HYX.out.1 (by simp)).trans HYX.out.2.2.2.1
            go_simp
            exact hK.out _ _ ⟨_, rfl, Only.refl _ _, rfl⟩
          · intro vals wr hR hp K hK
            dsimp only at hK ⊢
            obtain ⟨p11, p17, p23, p4, -⟩ := hp
            replace p11 := p11 rfl
            replace p17 := p17 rfl
            replace p23 := p23 rfl
            replace p4 := p4 rfl
            dsimp only at p11 p17 p23 p4
            rw [p11, p17, p23, p4] at hK ⊢
            clear p11 p17 p23 p4
            unfold RunsOp
            go_simp
            exact hK.out _ _ ⟨_, rfl, Only.refl _ _, rfl⟩
          · intro vals wr hR hp K hK
            dsimp only at hK ⊢
            obtain ⟨p5, p24, p4, -⟩ := hp
            replace p5 := p5 rfl
            replace p24 := p24 rfl
            replace p4 := p4 rfl
            dsimp only at p5 p24 p4
            rw [p5, p24, p4] at hK ⊢
            clear p5 p24 p4
            unfold RunsOp
            have hne := HNE.out
            go_simp
            exact hK.out _ _ ⟨_, rfl, Only.refl _ _, rfl⟩
          · intro vals wr hR hp K hK
            dsimp only at hK ⊢
            obtain ⟨p4, p25, -⟩ := hp
            replace p4 := p4 rfl
            replace p25 := p25 rfl
            dsimp only at p4 p25
            rw [p4, p25] at hK ⊢
            clear p4 p25
            unfold RunsOp
            go_simp
            exact hK.out _ _ ⟨_, rfl, Only.refl _ _, rfl⟩
          · intro vals wr hR hp K hK
            dsimp only at hK ⊢
            obtain ⟨p26, -, -⟩ := hp
            replace p26 := p26 rfl
            dsimp only at p26
            rw [p26] at hK ⊢
            clear p26
            unfold RunsOp
            go_simp
            exact hK.out _ _ ⟨_, rfl, Only.refl _ _, rfl⟩
          · intro vals wr hR hp K hK
            dsimp only at hK ⊢
            obtain ⟨p27, -⟩ := hp
            replace p27 := p27 rfl
            dsimp only at p27
            rw [p27] at hK ⊢
            clear p27
            unfold RunsOp
            have tg := hR.blk (Blk.drew HXB.out) (by simp)
            obtain ⟨k0, k1, k2, k3, k4, kl⟩ := tg.facts5
            clear tg
            go_simp
            exact hK.out _ _ ⟨_, rfl, Only.refl _ _, rfl⟩
          · intro vals wr hR hp K hK
            dsimp only at hK ⊢
            obtain ⟨p27, -⟩ := hp
            replace p27 := p27 rfl
            dsimp only at p27
            rw [p27] at hK ⊢
            clear p27
            unfold RunsOp
            have tg := hR.blk (Blk.drew HQB.out) (by simp)
            obtain ⟨k0, kl⟩ := tg.facts1
            clear tg
            go_simp
            exact hK.out _ _ ⟨_, rfl, Only.refl _ _, rfl⟩
          · intro vals wr hR hp K hK
            dsimp only at hK ⊢
            obtain ⟨p27, -⟩ := hp
            replace p27 := p27 rfl
            dsimp only at p27
            rw [p27] at hK ⊢
            clear p27
            unfold RunsOp
            have tg := hR.blk (Blk.drew HNB.out) (by simp)
            obtain ⟨k0, kl⟩ := tg.facts1
            clear tg
            go_simp
            exact hK.out _ _ ⟨_, rfl, Only.refl _ _, rfl⟩
          · intro vals wr hR hp K hK
            dsimp only at hK ⊢
            obtain ⟨p29, p30, p27, -⟩ := hp
            replace p29 := p29 rfl
            replace p30 := p30 rfl
            replace p27 := p27 rfl
            dsimp only at p29 p30 p27
            rw [p29, p30, p27] at hK ⊢
            clear p29 p30 p27
            unfold RunsOp
            go_simp
            exact hK.out _ _ ⟨_, rfl, Only.refl _ _, rfl⟩
          · intro vals wr hR hp K hK
            dsimp only at hK ⊢
            obtain ⟨p31, p27, -⟩ := hp
            replace p31 := p31 rfl
            replace p27 := p27 rfl
            dsimp only at p31 p27
            rw [p31, p27] at hK ⊢
            clear p31 p27
            unfold RunsOp
            go_simp
            exact hK.out _ _ ⟨_, rfl, Only.refl _ _, rfl⟩
          · intro vals wr hR hp K hK
            dsimp only at hK ⊢
            obtain ⟨p32, p27, -⟩ := hp
            replace p32 := p32 rfl
            replace p27 := p27 rfl
            dsimp only at p32 p27
            rw [p32, p27] at hK ⊢
            clear p32 p27
            unfold RunsOp
            have k3 := (hR.cell (p := ⟨g, k * 8 + 3, none⟩) HYX.out.1 (by simp)).trans HYX.out.2.2.2.2.1
            have k4 := (hR.cell (p := ⟨g, k * 8 + 4, none⟩) HYX.out.1 (by simp)).trans HYX.out.2.2.2.2.2.1
            have k5 := (hR.cell (p := ⟨g, k * 8 + 5, none⟩) HYX.out.1 (by simp)).trans HYX.out.2.2.2.2.2.2.1
            have k6 := (hR.cell (p := ⟨g, k * 8 + 6, none⟩) HYX.out.1 (by simp)).trans HYX.out.2.2.2.2.2.2.2.1
            have k7 := (hR.cell (p := ⟨g, k * 8 + 7, none⟩) HYX.out.1 (by simp)).trans HYX.out.2.2.2.2.2.2.2.2
            go_simp
            exact hK.out _ _ ⟨_, rfl, Only.refl _ _, rfl⟩
          · intro vals wr hR hp K hK
            dsimp only at hK ⊢
            obtain ⟨p28, p33, p27, -, -⟩ := hp
            replace p28 := p28 rfl
            replace p33 := p33 rfl
            replace p27 := p27 rfl
            dsimp only at p28 p33 p27
            rw [p28, p33, p27] at hK ⊢
            clear p28 p33 p27
            unfold RunsOp
            go_simp
            refine (HCA.out _ (((Only.refl [] X).drew).trans hR (by simp))).mono ?_
            rintro e w2 ⟨rfl, o2⟩
            exact hK.out _ _ ⟨_, rfl, o2, rfl⟩
          · intro vals wr hR hp K hK
            dsimp only at hK ⊢
            obtain ⟨p34, p27, -⟩ := hp
            replace p34 := p34 rfl
            replace p27 := p27 rfl
            dsimp only at p34 p27
            rw [p34, p27] at hK ⊢
            clear p34 p27
            unfold RunsOp
            go_simp
            exact hK.out _ _ ⟨_, rfl, Only.refl _ _, rfl⟩
          · intro vals wr hR hp K hK
            dsimp only at hK ⊢
            obtain ⟨p27, p35, -⟩ := hp
            replace p27 := p27 rfl
            replace p35 := p35 rfl
            dsimp only at p27 p35
            rw [p27, p35] at hK ⊢
            clear p27 p35
            unfold RunsOp
            go_simp
            exact hK.out _ _ ⟨_, rfl, Only.refl _ _, rfl⟩
          · intro vals wr hR hp K hK
            dsimp only at hK ⊢
            obtain ⟨p36, -, -⟩ := hp
            replace p36 := p36 rfl
            dsimp only at p36
            rw [p36] at hK ⊢
            clear p36
            unfold RunsOp
            go_simp
            exact hK.out _ _ ⟨_, rfl, Only.refl _ _, rfl⟩
          · intro vals wr hR hp K hK
            dsimp only at hK ⊢
            obtain ⟨p37, -⟩ := hp
            replace p37 := p37 rfl
            dsimp only at p37
            rw [p37] at hK ⊢
            clear p37
            unfold RunsOp
            have tg := hR.blk (Blk.drew HTB.out) (by simp)
            obtain ⟨k0, kl⟩ := tg.facts1
            clear tg
            go_simp
            exact hK.out _ _ ⟨_, rfl, Only.refl _ _, rfl⟩
          · intro vals wr hR hp K hK
            dsimp only at hK ⊢
            obtain ⟨p38, p37, -, -⟩ := hp
            replace p38 := p38 rfl
            replace p37 := p37 rfl
            dsimp only at p38 p37
            rw [p38, p37] at hK ⊢
            clear p38 p37
            unfold RunsOp
            go_simp
            exact hK.out _ _ ⟨_, rfl, Only.refl _ _, rfl⟩
          · intro vals wr hR hp K hK
            dsimp only at hK ⊢
            obtain ⟨p39, -⟩ := hp
            replace p39 := p39 rfl
            dsimp only at p39
            rw [p39] at hK ⊢
            clear p39
            unfold RunsOp
            have tg := hR.blk (Blk.drew HXB.out) (by simp)
            obtain ⟨k0, k1, k2, k3, k4, kl⟩ := tg.facts5
            clear tg
            go_simp
            exact hK.out _ _ ⟨_, rfl, Only.refl _ _, rfl⟩
          · intro vals wr hR hp K hK
            dsimp only at hK ⊢
            obtain ⟨p40, p39, -, -⟩ := hp
            replace p40 := p40 rfl
            replace p39 := p39 rfl
            dsimp only at p40 p39
            rw [p40, p39] at hK ⊢
            clear p40 p39
            unfold RunsOp
            go_simp
            refine (HCB.out _ (((Only.refl [] X).drew).trans hR (by simp))).mono ?_
            rintro e w2 ⟨rfl, o2⟩
            exact hK.out _ _ ⟨_, rfl, o2, rfl⟩
          · intro vals wr hR hp K hK
            dsimp only at hK ⊢
            obtain ⟨p41, p39, -⟩ := hp
            replace p41 := p41 rfl
            replace p39 := p39 rfl
            dsimp only at p41 p39
            rw [p41, p39] at hK ⊢
            clear p41 p39
            unfold RunsOp
            go_simp
            exact hK.out _ _ ⟨_, rfl, Only.refl _ _, rfl⟩
          · intro vals wr hR hp K hK
            dsimp only at hK ⊢
            obtain ⟨p39, p42, p37, -⟩ := hp
            replace p39 := p39 rfl
            replace p42 := p42 rfl
            replace p37 := p37 rfl
            dsimp only at p39 p42 p37
            rw [p39, p42, p37] at hK ⊢
            clear p39 p42 p37
            unfold RunsOp
            go_simp
            exact hK.out _ _ ⟨_, rfl, Only.refl _ _, rfl⟩
          · intro vals wr hR hp K hK
            dsimp only at hK ⊢
            obtain ⟨p37, p43, -⟩ := hp
            replace p37 := p37 rfl
            replace p43 := p43 rfl
            dsimp only at p37 p43
            rw [p37, p43] at hK ⊢
            clear p37 p43
            unfold RunsOp
            go_simp
            exact hK.out _ _ ⟨_, rfl, Only.refl _ _, rfl⟩
        case doneg1 =>
          intro vals wd hR hF
          have f0 : vals 0 = .int .i64 (k : Int) := hF 0 (by decide)
          have f1 : vals 1 = .slice (some ⟨g, 0, none⟩) jr cw := hF 1 (by decide)
          have f2 : vals 2 = .int .i64 (jr : Nat) := hF 2 (by decide)
          have f3 : vals 3 = .bool false := hF 3 (by decide)
          have f4 : vals 4 = .bool false := hF 4 (by decide)
          have f5 : vals 5 = .agg #[.int .i64 sm, .int .i64 sp, .int .i64 si, .int .i64 0] := hF 5 (by decide)
          have f6 : vals 6 = .slice (some ⟨g, 0, none⟩) jr cw := hF 6 (by decide)
          have f7 : vals 7 = .int .i64 (k : Int) := hF 7 (by decide)
          have f8 : vals 8 = .pointer (some ⟨g, k * 8, none⟩) := hF 8 (by decide)
          have f9 : vals 9 = .pointer (some ⟨g, k * 8, none⟩) := hF 9 (by decide)
          have f10 : vals 10 = .pointer (some ⟨g, k * 8, none⟩) := hF 10 (by decide)
          have f11 : vals 11 = .int .i64 (sm : Nat) := hF 11 (by decide)
          have f12 : vals 12 = .slice (some ⟨g, 0, none⟩) jr cw := hF 12 (by decide)
          have f13 : vals 13 = .int .i64 (k : Int) := hF 13 (by decide)
          have f14 : vals 14 = .pointer (some ⟨g, k * 8, none⟩) := hF 14 (by decide)
          have f15 : vals 15 = .pointer (some ⟨g, k * 8, none⟩) := hF 15 (by decide)
          have f16 : vals 16 = .pointer (some ⟨g, k * 8 + 1, none⟩) := hF 16 (by decide)
          have f17 : vals 17 = .int .i64 (sp : Nat) := hF 17 (by decide)
          have f18 : vals 18 = .slice (some ⟨g, 0, none⟩) jr cw := hF 18 (by decide)
          have f19 : vals 19 = .int .i64 (k : Int) := hF 19 (by decide)
          have f20 : vals 20 = .pointer (some ⟨g, k * 8, none⟩) := hF 20 (by decide)
          have f21 : vals 21 = .pointer (some ⟨g, k * 8, none⟩) := hF 21 (by decide)
          have f22 : vals 22 = .pointer (some ⟨g, k * 8 + 2, none⟩) := hF 22 (by decide)
          have f23 : vals 23 = .int .i64 (si : Nat) := hF 23 (by decide)
          have f24 : vals 24 = .agg #[.int .i64 sm, .int .i64 sp, .int .i64 si, .int .i64 0] := hF 24 (by decide)
          have f25 : vals 25 = .bool false := hF 25 (by decide)
          have f26 : vals 26 = .bool false := hF 26 (by decide)
          have f27 : vals 27 = .bool false := hF 27 (by decide)
          have f28 : vals 28 = .agg #[.int .i64 xop, .int .i64 xn, .string xnm, .string xsb, .slice xA xargs.length xcap] := hF 28 (by decide)
          have f29 : vals 29 = .slice (some ⟨g, 0, none⟩) jr cw := hF 29 (by decide)
          have f30 : vals 30 = .int .i64 (k : Int) := hF 30 (by decide)
          have f31 : vals 31 = .pointer (some ⟨g, k * 8, none⟩) := hF 31 (by decide)
          have f32 : vals 32 = .pointer (some ⟨g, k * 8 + 3, none⟩) := hF 32 (by decide)
          have f33 : vals 33 = .agg #[.int .i64 yop, .int .i64 yn, .string ynm, .string ysb, .slice yA yargs.length ycap] := hF 33 (by decide)
          have f34 : vals 34 = .bool true := hF 34 (by decide)
          have f35 : vals 35 = .bool false := hF 35 (by decide)
          have f36 : vals 36 = .bool false := hF 36 (by decide)
          have f37 : vals 37 = .bool false := hF 37 (by decide)
          have f38 : vals 38 = .bool true := hF 38 (by decide)
          have f39 : vals 39 = .bool true := hF 39 (by decide)
          have f40 : vals 40 = .agg #[.int .i64 xop, .int .i64 xn, .string xnm, .string xsb, .slice xA xargs.length xcap] := hF 40 (by decide)
          have f41 : vals 41 = .bool true := hF 41 (by decide)
          have f42 : vals 42 = .bool false := hF 42 (by decide)
          have f43 : vals 43 = .bool false := hF 43 (by decide)
          have f44 : vals 44 = .bool false := hF 44 (by decide)
          rw [f0, f1, f2, f3, f4, f5, f6, f7, f8, f9, f10, f11, f12, f13, f14, f15, f16, f17, f18, f19, f20, f21, f22, f23, f24, f25, f26, f27, f28, f29, f30, f31, f32, f33, f34, f35, f36, f37, f38, f39, f40, f41, f42, f43, f44]
          clear f0 f1 f2 f3 f4 f5 f6 f7 f8 f9 f10 f11 f12 f13 f14 f15 f16 f17 f18 f19 f20 f21 f22 f23 f24 f25 f26 f27 f28 f29 f30 f31 f32 f33 f34 f35 f36 f37 f38 f39 f40 f41 f42 f43 f44
          have oXd : Only [] X wd := ((Only.refl [] X).drew).trans hR (by simp)
          have HNd := Lib.hid (oXd.blk HNB.out (by simp))
          have HRd := Lib.hid (oXd.blk HRB.out (by simp))
          have HSd := Lib.hid (oXd.blk HSB.out (by simp))
          have HOd := Lib.hid (HOX.out.trans oXd (by simp))
          have HXd := Lib.hid oXd
          clear hR hF oXd
          obtain ⟨n0, nl⟩ := HNd.out.facts1
          have nfr := HNd.out.frozen 0
          obtain ⟨s0, sl⟩ := HSd.out.facts1
          obtain ⟨r0, rl⟩ := HRd.out.facts1
          have rfr := HRd.out.frozen 0
          have hne1 : ¬ w8.heap.size + 1 = w.heap.size + 1 := by omega
          have hne2 : ¬ w8.heap.size + 1 = w.heap.size + 1 + 1 := by omega
          have hne3 : ¬ w.heap.size + 1 = w8.heap.size + 1 := by omega
          have hne4 : ¬ w.heap.size + 1 + 1 = w8.heap.size + 1 := by omega
          have hkb : (k : Int) ≤ 1048576 := by have := HCNT.out; omega
          by_cases hbr : z ≤ (k : Int) + 1
          · have hd : decide (z ≤ (k : Int) + 1) = true := by simpa using hbr
            gi_wp2_with (fail)
            have hr2 := (Blk.far HRd.out (p := ⟨w8.heap.size + 1, 0, none⟩) (by simpa using hne4) (.int .i64 ((k : Int) + 1))).set_ 0 (.bool true)
            have o1 : Only [w.heap.size + 1 + 1, w8.heap.size + 1] wd ((wd.setCell ⟨w8.heap.size + 1, 0, none⟩ (.int .i64 ((k : Int) + 1))).setCell ⟨w.heap.size + 1 + 1, 0, none⟩ (.bool true)) := ((Only.refl _ wd).setCell (.inl (by simp)) _).setCell (.inl (by simp)) _
            exact ⟨⟨rfl, by simpa using hr2, HOd.out.trans o1 (fun b hb => .inl hb)⟩, (HXd.out.mono (fun _ h => by simp at h)).trans o1 (fun b hb => .inl hb)⟩
          · have hd : decide (z ≤ (k : Int) + 1) = false := by simpa using hbr
            gi_wp2_with (fail)
            have hn2 := HNd.out.set_ 0 (.int .i64 ((k : Int) + 1))
            have hr2 := Blk.far HRd.out (p := ⟨w8.heap.size + 1, 0, none⟩) (by simpa using hne4) (.int .i64 ((k : Int) + 1))
            have o1 : Only [w.heap.size + 1 + 1, w8.heap.size + 1] wd (wd.setCell ⟨w8.heap.size + 1, 0, none⟩ (.int .i64 ((k : Int) + 1))) := (Only.refl _ wd).setCell (.inl (by simp)) _
            refine ⟨⟨_, ⟨by simpa using hn2, hr2, rfl, HOd.out.trans o1 (fun b hb => .inl hb)⟩, fun b hb => ⟨.inl hb, ?_⟩⟩, (HXd.out.mono (fun _ h => by simp at h)).trans o1 (fun b hb => .inl hb)⟩
            simp at hb
            rcases hb with rfl | rfl
            · exact hr2.lt
            · exact hn2.lt
end Go.Proofs.YtfnacnlaphpflaaDoor
