/- ValueParts: what is asked. -/
import Derived.Test.YtgpljjejfebhoaaDoorCmps
import Derived.Test.YtgpljjejfebhoaaDoorCollect
namespace Go.Proofs.YtgpljjejfebhoaaDoor
open Go.RowKit Go.Kx Go.Val
set_option maxRecDepth 100000
attribute [local go_sem] Oper.semAt_some
theorem calls_marks0 {f : FuncId} {fn : Func} {c : Code} {args : Array Value} {w : World} {R : Ending → World → Prop} (hf : Tryd.prog.funcs[f]? = some fn) (hb : fn.body = some c)
    (h : c.wp Tryd.prog (bodyPostM Fence.wide 9 Tryd.prog fn R) { tmps := args ++ Array.replicate (fn.ntmps - args.size) undef, defers := [] } w) : Calls Tryd.prog f args w R := calls_marks hf hb h
theorem sm_tr : ∀ {a b : Vx}, a.tr = b.tr → a.sm = true → b.sm = true := by
  intro a
  induction a using Vx.ind with
  | h a ih =>
    intro b h hs
    obtain ⟨k, n, s, A, cap, l⟩ := a
    obtain ⟨k2, n2, s2, A2, cap2, l2⟩ := b
    rw [Vx.tr_mk, Vx.tr_mk] at h
    injection h with _ _ _ h
    obtain ⟨h1, h2⟩ := sm_mk hs
    have hl : l.length = l2.length := by simpa using congrArg List.length h
    refine sm_of (by omega) (fun y hy => ?_)
    obtain ⟨i, hi⟩ := List.getElem?_of_mem hy
    have hil := (List.getElem?_eq_some_iff.1 hi).1
    have h3 := congrArg (·[i]?) h
    simp only [List.getElem?_map, hi, List.getElem?_eq_getElem (show i < l.length by omega)] at h3
    simp at h3
    exact ih (l[i]'(by omega)) (by simp [Vx.l]) h3 (h2 _ (by simp))
/-- what is gone through of any value -/
def partsT (t : Vt) : List Vt := if t.ok 3 = true then t.all else []
theorem parts_both {e : Vx} {w : World} (hL : LiesV w e) (hs : e.sm = true) : Calls Tryd.prog 30 #[e.val] w fun r w' => ∃ gf lb prot, r = .returned (.func (.func gf) #[] lb) ∧ Hid (SeqsP Tryd.prog gf lb (partsT e.tr).length (WR (partsT e.tr)) prot w') ∧ Hid (∀ b ∈ prot, w.heap.size ≤ b ∧ b < w'.heap.size) ∧ Hid (∀ args w, (callFunc gf args).run Tryd.prog w = .ok (.enter gf args) w) ∧ Only [] w w' := by
  cases hok : e.tr.ok 3 with
  | false =>
    refine (parts_no hL hok).mono ?_
    rintro r w' ⟨rfl, o⟩
    refine ⟨44, #[], [], rfl, Lib.hid ?_, Lib.hid (fun b hb => by simp at hb), Lib.hid eg44, o⟩
    unfold partsT
    rw [if_neg (by rw [hok]; decide)]
    exact no_seqs _ _ _
  | true =>
    refine (parts_yes hL hs hok).mono ?_
    rintro r w' ⟨cb, e', rfl, hcp, hcb, hcl, o⟩
    have hsm : e'.sm = true := sm_tr hcp.tr.symm hs
    have h := parts_seqs hcp.lies hsm hcb hcp.top
    rw [hcp.tr] at h
    refine ⟨45, _, _, rfl, Lib.hid (by unfold partsT; rw [if_pos hok]; exact h), Lib.hid (fun b hb => ?_), Lib.hid eg45, o⟩
    rcases List.mem_cons.1 hb with rfl | hb
    · exact ⟨hcl, hcb.lt⟩
    · exact ⟨hcp.off b hb, hcp.top b hb⟩
theorem rparts_T {e : Vx} {w : World} (hL : LiesV w e) (hn : e.tr.all.length ≤ 1048576) : Calls Tryd.prog 28 #[e.val] w fun r w' => ∃ A c L, r = .returned (.slice A e.tr.all.length c) ∧ Hid (RowLV w' A L) ∧ Hid (L.map Vx.tr = e.tr.all) ∧ Only [] w w' := by
  have hl : e.all.length = e.tr.all.length := by rw [← exall_tr, List.length_map]
  refine (rparts_any e w hL (by omega)).mono ?_
  rintro r w' ⟨A, c, rfl, how, o⟩
  exact ⟨A, c, e.all, by rw [hl], Lib.hid ⟨row_of_ownV how rfl, fun x hx => (exall_lies e hL x hx).keep o, by omega⟩, Lib.hid (exall_tr e), o⟩
set_option maxHeartbeats 4000000 in
theorem lawparts_any {e1 : Vx} {z : Int} {w : World} (hL1 : LiesV w e1) (hz0 : 0 ≤ z) (hz1 : z ≤ 255) (hT : Tab10 w) : Calls Tryd.prog 6 #[e1.val, .int .u8 z] w fun r w' => r = .returned (.bool true) ∧ Only [] w w' := by
  have C1 := Lib.hid (fun W (o : Only [] w W) => awake_any (hT.only o))
  have CF := Lib.hid (fun W (o : Only [] w W) => few_lit (l := [e1]) (w := W) (fun e he => by simp at he; rcases he with rfl; exact hL1.keep o) (by simp))
  have D20 := Lib.hid (fun W (o : Only [] w W) => refrightV e1 W (hL1.keep o) 3 (by omega))
  have HSM := Lib.hid (show fewB [e1] = true → e1.sm = true ∧ e1.tr.all.length ≤ 400 from fun h => few_sm h e1 (by simp))
  have D28 := Lib.hid (fun W (o : Only [] w W) (h : fewB [e1] = true) => rparts_T (hL1.keep o) (Nat.le_trans (HSM.out h).2 (by omega)))
  have D30 := Lib.hid (fun W (o : Only [] w W) (h : fewB [e1] = true) => parts_both (hL1.keep o) (HSM.out h).1)
  have HPN := Lib.hid (show e1.tr.ok 3 = false → partsT e1.tr = [] from fun h => by unfold partsT; rw [if_neg (by rw [h]; decide)])
  have HPY := Lib.hid (show e1.tr.ok 3 = true → partsT e1.tr = e1.tr.all from fun h => by unfold partsT; rw [if_pos h])
  have HLN := Lib.hid (show fewB [e1] = true → (partsT e1.tr).length ≤ 400 from fun h => by
    unfold partsT
    split
    · exact (HSM.out h).2
    · simp)
  obtain ⟨fb, hfb⟩ : ∃ z, fewB [e1] = z := ⟨_, rfl⟩
  obtain ⟨q1, hq1⟩ : ∃ z, e1.tr.ok 3 = z := ⟨_, rfl⟩
  obtain ⟨T, hT9⟩ : ∃ z, partsT e1.tr = z := ⟨_, rfl⟩
  obtain ⟨TA, hTA⟩ : ∃ z, e1.tr.all = z := ⟨_, rfl⟩
  rw [hfb] at CF D28 D30 HLN
  rw [hq1] at D20 HPN HPY
  rw [hT9] at D30 HPN HPY HLN
  rw [hTA] at D28 HPY
  clear hL1 hT hfb hq1 hT9 hTA HSM
  obtain ⟨k1, n1, s1, A1, cap1, l1⟩ := e1
  have hbx := Blk.new w 34 #[.int .i64 k1, .int .i64 n1, .string s1, .slice A1 l1.length cap1]
  have hbz := Blk.new (w.alloc (.cells #[.int .i64 k1, .int .i64 n1, .string s1, .slice A1 l1.length cap1] 34)) 5 #[.int .u8 z]
  simp only [World.size_alloc] at hbz
  have O0 := Lib.hid (show Only [] w ((w.alloc (.cells #[.int .i64 k1, .int .i64 n1, .string s1, .slice A1 l1.length cap1] 34)).alloc (.cells #[.int .u8 z] 5)) from ((Only.refl _ _).alloc _).alloc _)
  have X10 := Lib.hid (Blk.alloc hbx (.cells #[.int .u8 z] 5))
  have XZ0 := Lib.hid hbz
  clear hbx hbz
  show Calls Tryd.prog 6 #[.agg #[.int .i64 k1, .int .i64 n1, .string s1, .slice A1 l1.length cap1], .int .u8 z] w _
  have CF2 := Lib.hid (show ∀ W, Only [] w W → Calls Tryd.prog 19 #[.slice (some ⟨W.heap.size, 0, none⟩) 1 1] (W.alloc (.cells #[.int .i64 k1, .int .i64 n1, .string s1, .slice A1 l1.length cap1] 34)) _ from CF.out)
  clear CF
  refine calls_marks Tryd.func6 rfl ?_
  simp only [Tryd.ntmps6, List.size_toArray, List.length_cons, List.length_nil, Nat.reduceAdd, Nat.reduceSub, Array.replicate_succ, Array.replicate_zero, List.push_toArray, List.append_toArray, List.nil_append, List.cons_append]
  go_wp2_with (fail)
  refine (C1.out _ O0.out).mono ?_
  rintro r w1 ⟨rfl, o1⟩
  have O1 := Lib.hid (O0.out.trans o1 (by simp))
  have X11 := Lib.hid (o1.blk X10.out (by simp))
  have XZ1 := Lib.hid (o1.blk XZ0.out (by simp))
  clear o1
  obtain ⟨b10, b11, b12, b13, bl1⟩ := X11.out.facts4
  go_wp2_with (fail)
  refine (CF2.out _ O1.out).mono ?_
  rintro r w2 ⟨rfl, o2⟩
  have O2 := Lib.hid (O1.out.trans o2 (by simp))
  have X12 := Lib.hid (o2.blk X11.out (by simp))
  have XZ2 := Lib.hid (o2.blk XZ1.out (by simp))
  clear o2
  clear b10 b11 b12 b13 bl1
  obtain ⟨b10, b11, b12, b13, bl1⟩ := X12.out.facts4
  cases fb with
  | false =>
    go_wp2_with (fail)
    refine (C1.out _ O2.out).mono ?_
    rintro r w3 ⟨rfl, o3⟩
    have O3 := Lib.hid (O2.out.trans o3 (by simp))
    have X13 := Lib.hid (o3.blk X12.out (by simp))
    have XZ3 := Lib.hid (o3.blk XZ2.out (by simp))
    clear o3
    clear b10 b11 b12 b13 bl1
    go_wp2_with (fail)
    exact ⟨_, results_tmp rfl _ _ _, rfl, O3.out⟩
  | true =>
    have hln := HLN.out (by first | rfl | trivial)
    go_wp2_with (fail)
    refine (D20.out _ O2.out).mono ?_
    rintro r w3 ⟨rfl, o3⟩
    have O3 := Lib.hid (O2.out.trans o3 (by simp))
    have X13 := Lib.hid (o3.blk X12.out (by simp))
    have XZ3 := Lib.hid (o3.blk XZ2.out (by simp))
    clear o3
    clear b10 b11 b12 b13 bl1
    obtain ⟨b10, b11, b12, b13, bl1⟩ := X13.out.facts4
    cases q1 with
    | false =>
      have ht := HPN.out (by first | rfl | trivial)
      subst ht
      go_wp2_with (fail)
      refine (D30.out _ O3.out (by first | rfl | trivial)).mono ?_
      rintro r w4 ⟨gf, lb, prot, rfl, hsq, hpr, hgf, o4⟩
      have O4 := Lib.hid (O3.out.trans o4 (by simp))
      have X14 := Lib.hid (o4.blk X13.out (by simp))
      have XZ4 := Lib.hid (o4.blk XZ3.out (by simp))
      have HR1a := Lib.hid (((⟨fun i e h => by simp at h, fun e h => by simp at h, by simp⟩ : RowLV w3 none [])).keep o4)
      clear o4
      clear b10 b11 b12 b13 bl1
      have D29 := Lib.hid (collect_any hsq.out (fun b hb => (hpr.out b hb).2) (by omega) hgf.out)
      clear hsq hpr hgf
      go_wp2_with (fail)
      refine D29.out.mono ?_
      rintro r w5 ⟨A2, c2, L2, rfl, hrow2, htr2, o5⟩
      have O5 := Lib.hid (O4.out.trans o5 (by simp))
      have X15 := Lib.hid (o5.blk X14.out (by simp))
      have XZ5 := Lib.hid (o5.blk XZ4.out (by simp))
      have HR2 := Lib.hid hrow2
      have HT2 := Lib.hid htr2
      have HR1 := Lib.hid (HR1a.out.keep o5)
      clear o5 hrow2 htr2 D29
      obtain ⟨b10, b11, b12, b13, bl1⟩ := X15.out.facts4
      go_wp2_with (fail)
      have hs7 : (w5.alloc (.cells #[.int .i64 0] 3)).heap.size = w5.heap.size + 1 := by simp
      have q7 := Blk.new w5 3 #[.int .i64 0]
      have o7 : Only [] w5 (w5.alloc (.cells #[.int .i64 0] 3)) := (Only.refl _ _).alloc _
      have HS7 := Lib.hid hs7
      have Q7 := Lib.hid q7
      have O7 := Lib.hid o7
      clear hs7 q7 o7
      clear b10 b11 b12 b13 bl1
      refine (D30.out _ (O5.out.trans O7.out (by simp)) (by first | rfl | trivial)).mono ?_
      rintro r w9 ⟨gf, lb, prot, rfl, hsq, hpr, hgf, o9⟩
      have hnz : w.heap.size + 1 < w5.heap.size := XZ5.out.lt
      have Q9 := Lib.hid (o9.blk Q7.out (by simp))
      have o79 := O7.out.trans o9 (by simp)
      have O9 := Lib.hid (O5.out.trans o79 (by simp))
      have O79 := Lib.hid o79
      have X19 := Lib.hid (o79.blk X15.out (by simp))
      have XZ9 := Lib.hid (o79.blk XZ5.out (by simp))
      obtain ⟨nb, hnb⟩ : ∃ nb, w5.heap.size = nb := ⟨_, rfl⟩
      have HNB := Lib.hid hnb
      rw [hnb] at Q9 HS7 hnz
      have HP9 := Lib.hid (show ∀ b ∈ prot, nb < b from fun b hb => by have := (hpr.out b hb).1; have := HS7.out; omega)
      clear o9 o79
      go_wp2_with (fail)
      clear hnb
      have HG := Lib.hid hgf.out
      have h9l := Q9.out.lt
      have HPR := Lib.hid (fun b hb => (hpr.out b hb).2)
      have hqs : SeqsP Tryd.prog gf lb 0 (WR []) prot w9 := hsq.out
      have hN : 0 = 0 := rfl
      clear hN hsq hpr hgf
      refine' wp_rangeFunc_seqsP (gf := gf) (lb := lb) (N := 0) (prot := prot) rfl HG.out hqs (by intro k S v W hv; obtain ⟨_, rfl, _⟩ := hv; rfl) [nb] (by simp; omega) (by intro b hb; have := HP9.out b hb; simp; omega)
        (fun k S W => Blk W nb 3 #[.int .i64 k] ∧ S = [nb] ∧ (k = 0 ∨ (k : Int) < z) ∧ Only [nb] w9 W)
        (fun c W => c = .exit 0 ∧ (∃ m : Nat, Blk W nb 3 #[.int .i64 m] ∧ 1 ≤ m ∧ m ≤ 0 ∧ z ≤ (m : Int) ∧ (m = 1 ∨ (m : Int) - 1 < z)) ∧ Only [nb] w9 W) ?hI ?hIx ?h0 ?round ?done ?stop
      case hI =>
        rintro k S W1 W2 ⟨h1, rfl, h3, h4⟩ hk
        exact ⟨hk.blk h1, rfl, h3, h4.keepC hk (Nat.le_refl _)⟩
      case hIx =>
        rintro c W1 W2 ⟨rfl, ⟨m, h1, h2⟩, h4⟩ hk
        exact ⟨rfl, ⟨m, hk.blk h1, h2⟩, h4.keepC hk (Nat.le_refl _)⟩
      case h0 => exact ⟨Q9.out, rfl, .inl rfl, Only.refl _ _⟩
      case round =>
        intro l k v S V hl hlS hk hR hIV
        exact absurd hk (Nat.not_lt_zero _)
      case done =>
        rintro D S W hD ⟨hb, rfl, hc, hO⟩ hK
        have HD := Lib.hid hK
        have HDl := Lib.hid hD
        have OW := Lib.hid (show Only [] w W from O9.out.trans hO (fun b hb => by simp at hb; right; omega))
        have OV := Lib.hid (show Only [] w5 W from O79.out.trans hO (fun b hb => by have := HNB.out; simp at hb; right; omega))
        obtain ⟨z0, zl⟩ := (hO.blk XZ9.out (by simp; omega)).facts1
        have n0 : W.cell? ⟨nb, 0, none⟩ = some (.int .i64 0) := hb.facts1.1
        have nl := hb.lt
        clear hb hO hK hD hqs
        go_wp2_with (fail)
        clear z0 zl n0 nl
        go_loopw [8] (fun i wr => ∃ k : Nat, i = .int .i64 k ∧ k ≤ 0 ∧ Hid (Only [] W wr)) (fun i _ => 0 - (intOf i).toNat)
        case atStart => exact ⟨0, rfl, Nat.zero_le _, Lib.hid (Only.refl _ _)⟩
        case round =>
          obtain ⟨k, rfl, hk, HOr⟩ := hrel
          obtain rfl : k = 0 := by omega
          go_wp2_with (fail)
          have HDr := (HOr.out.block D (Array.getElem?_eq_some_iff.1 HD.out).1 (by simp)).trans HD.out
          refine ⟨by simp, .inl ⟨_, _, rfl, run_takeDeferred HDr, ?_⟩⟩
          have hk := KeepC.putObj (B := D) (o' := .deferred none) HDr rfl (Nat.le_refl _)
          exact ⟨_, results_tmp rfl _ _ _, rfl, (OW.out.trans HOr.out (by simp)).keepC hk (by have := HDl.out; have := O9.out.size; omega)⟩
      case stop =>
        rintro D c W hD ⟨rfl, ⟨m, hb, hm1, hmN, hm2, hm3⟩, hO⟩ hK
        exfalso
        omega
    | true =>
      have ht := HPY.out (by first | rfl | trivial)
      subst ht
      go_wp2_with (fail)
      refine (D28.out _ O3.out (by first | rfl | trivial)).mono ?_
      rintro r w4 ⟨AW, cW, LW, rfl, hr1, ht1, o4⟩
      have O4 := Lib.hid (O3.out.trans o4 (by simp))
      have X14 := Lib.hid (o4.blk X13.out (by simp))
      have XZ4 := Lib.hid (o4.blk XZ3.out (by simp))
      clear o4
      clear b10 b11 b12 b13 bl1
      obtain ⟨b10, b11, b12, b13, bl1⟩ := X14.out.facts4
      go_wp2_with (fail)
      refine (D30.out _ O4.out (by first | rfl | trivial)).mono ?_
      rintro r w5 ⟨gf, lb, prot, rfl, hsq, hpr, hgf, o5⟩
      have O5 := Lib.hid (O4.out.trans o5 (by simp))
      have X15 := Lib.hid (o5.blk X14.out (by simp))
      have XZ5 := Lib.hid (o5.blk XZ4.out (by simp))
      have HR1a := Lib.hid ((hr1.out).keep o5)
      clear o5
      clear b10 b11 b12 b13 bl1
      have D29 := Lib.hid (collect_any hsq.out (fun b hb => (hpr.out b hb).2) (by omega) hgf.out)
      clear hsq hpr hgf
      go_wp2_with (fail)
      refine D29.out.mono ?_
      rintro r w6 ⟨A2, c2, L2, rfl, hrow2, htr2, o6⟩
      have O6 := Lib.hid (O5.out.trans o6 (by simp))
      have X16 := Lib.hid (o6.blk X15.out (by simp))
      have XZ6 := Lib.hid (o6.blk XZ5.out (by simp))
      have HR2 := Lib.hid hrow2
      have HT2 := Lib.hid htr2
      have HR1 := Lib.hid (HR1a.out.keep o6)
      clear o6 hrow2 htr2 D29
      obtain ⟨b10, b11, b12, b13, bl1⟩ := X16.out.facts4
      go_wp2_with (fail)
      have hs7 : (w6.alloc (.cells #[.int .i64 0] 3)).heap.size = w6.heap.size + 1 := by simp
      have q7 := Blk.new w6 3 #[.int .i64 0]
      have o7 : Only [] w6 (w6.alloc (.cells #[.int .i64 0] 3)) := (Only.refl _ _).alloc _
      have HS7 := Lib.hid hs7
      have Q7 := Lib.hid q7
      have O7 := Lib.hid o7
      clear hs7 q7 o7
      clear b10 b11 b12 b13 bl1
      refine (D30.out _ (O6.out.trans O7.out (by simp)) (by first | rfl | trivial)).mono ?_
      rintro r w9 ⟨gf, lb, prot, rfl, hsq, hpr, hgf, o9⟩
      have hnz : w.heap.size + 1 < w6.heap.size := XZ6.out.lt
      have Q9 := Lib.hid (o9.blk Q7.out (by simp))
      have o79 := O7.out.trans o9 (by simp)
      have O9 := Lib.hid (O6.out.trans o79 (by simp))
      have O79 := Lib.hid o79
      have X19 := Lib.hid (o79.blk X16.out (by simp))
      have XZ9 := Lib.hid (o79.blk XZ6.out (by simp))
      obtain ⟨nb, hnb⟩ : ∃ nb, w6.heap.size = nb := ⟨_, rfl⟩
      have HNB := Lib.hid hnb
      rw [hnb] at Q9 HS7 hnz
      have HP9 := Lib.hid (show ∀ b ∈ prot, nb < b from fun b hb => by have := (hpr.out b hb).1; have := HS7.out; omega)
      clear o9 o79
      go_wp2_with (fail)
      clear hnb
      have HG := Lib.hid hgf.out
      have h9l := Q9.out.lt
      have HPR := Lib.hid (fun b hb => (hpr.out b hb).2)
      have hqs := hsq.out
      obtain ⟨N, hN⟩ : ∃ N, T.length = N := ⟨_, rfl⟩
      have HN := Lib.hid hN
      rw [hN]
      rw [hN] at hln hqs
      clear hN hsq hpr hgf
      refine' wp_rangeFunc_seqsP (gf := gf) (lb := lb) (N := N) (prot := prot) rfl HG.out hqs (by intro k S v W hv; obtain ⟨_, rfl, _⟩ := hv; rfl) [nb] (by simp; omega) (by intro b hb; have := HP9.out b hb; simp; omega)
        (fun k S W => Blk W nb 3 #[.int .i64 k] ∧ S = [nb] ∧ (k = 0 ∨ (k : Int) < z) ∧ Only [nb] w9 W)
        (fun c W => c = .exit 0 ∧ (∃ m : Nat, Blk W nb 3 #[.int .i64 m] ∧ 1 ≤ m ∧ m ≤ N ∧ z ≤ (m : Int) ∧ (m = 1 ∨ (m : Int) - 1 < z)) ∧ Only [nb] w9 W) ?hI ?hIx ?h0 ?round ?done ?stop
      case hI =>
        rintro k S W1 W2 ⟨h1, rfl, h3, h4⟩ hk
        exact ⟨hk.blk h1, rfl, h3, h4.keepC hk (Nat.le_refl _)⟩
      case hIx =>
        rintro c W1 W2 ⟨rfl, ⟨m, h1, h2⟩, h4⟩ hk
        exact ⟨rfl, ⟨m, hk.blk h1, h2⟩, h4.keepC hk (Nat.le_refl _)⟩
      case h0 => exact ⟨Q9.out, rfl, .inl rfl, Only.refl _ _⟩
      case round =>
        intro l k v S V hl hlS hk hR hIV
        obtain ⟨e', rfl, -⟩ := hR
        clear hIV hqs
        gi_wp2_with (fail)
        refine ⟨Only.refl _ _, fun X hrec hIX hkk => ?_⟩
        obtain ⟨hb, rfl, hc, hO⟩ := hIX
        have HB := Lib.hid hb
        have HO := Lib.hid hO
        have HC := Lib.hid hc
        obtain ⟨z0, zl⟩ := (hO.blk XZ9.out (by simp; omega)).facts1
        obtain ⟨n0, nl⟩ := hb.facts1
        have fn0 := hb.frozen 0
        have k1 : (k : Int) ≤ 400 := by omega
        clear hkk hb hO hc hrec
        have hset := HB.out.set_ 0 (.int .i64 ((k : Int) + 1))
        have HSET := Lib.hid (show Blk (X.setCell ⟨nb, 0, none⟩ (.int .i64 ((k : Int) + 1))) nb 3 #[.int .i64 ((k + 1 : Nat) : Int)] from hset)
        have OSET := Lib.hid (only_setCell X ⟨nb, 0, none⟩ (.int .i64 ((k : Int) + 1)))
        clear hset
        by_cases hst : z ≤ (k : Int) + 1
        · have d1 : decide (z ≤ (k : Int) + 1) = true := decide_eq_true hst
          have HST := Lib.hid hst
          clear hst
          gi_wp2_with (fail)
          exact ⟨⟨rfl, ⟨k + 1, HSET.out, by omega, by omega, by have := HST.out; omega, by have := HC.out; omega⟩, HO.out.trans OSET.out (fun b hb => .inl hb)⟩, OSET.out⟩
        · have d1 : decide (z ≤ (k : Int) + 1) = false := decide_eq_false hst
          have HST := Lib.hid hst
          clear hst
          gi_wp2_with (fail)
          exact ⟨⟨[nb], ⟨HSET.out, rfl, .inr (by have := HST.out; omega), HO.out.trans OSET.out (fun b hb => .inl hb)⟩, fun b hb => ⟨.inl hb, by simp at hb; subst hb; exact HSET.out.lt⟩⟩, OSET.out⟩
      case done =>
        rintro D S W hD ⟨hb, rfl, hc, hO⟩ hK
        obtain ⟨m, hm, hmN⟩ : ∃ m, m = N ∧ m ≤ N := ⟨N, rfl, Nat.le_refl _⟩
        have HMS := Lib.hid (show m = N ∨ (m : Int) = max z 1 from .inl hm)
        rw [← hm] at hb
        clear hm hc
        have HD := Lib.hid hK
        have HDl := Lib.hid hD
        have OW := Lib.hid (show Only [] w W from O9.out.trans hO (fun b hb => by simp at hb; right; omega))
        have OV := Lib.hid (show Only [] w6 W from O79.out.trans hO (fun b hb => by have := HNB.out; simp at hb; right; omega))
        obtain ⟨z0, zl⟩ := (hO.blk XZ9.out (by simp; omega)).facts1
        obtain ⟨n0, nl⟩ := hb.facts1
        clear hb hO hK hD hqs
        have d1 : decide ((N : Int) < (m : Int)) = false := decide_eq_false (by omega)
        have d1n : decide (N < m) = false := decide_eq_false (by omega)
        by_cases hmn : m = N
        · have d2 : decide ((m : Int) < (N : Int)) = false := decide_eq_false (by omega)
          have d2n : decide (m < N) = false := decide_eq_false (by omega)
          have HMN := Lib.hid hmn
          clear hmn
          go_wp2_with (fail)
          clear z0 zl n0 nl d1 d1n d2 d2n
          go_loopw [8] (fun i wr => ∃ k : Nat, i = .int .i64 k ∧ k ≤ N ∧ Hid (Only [] W wr)) (fun i _ => N - (intOf i).toNat)
          case atStart => exact ⟨0, rfl, Nat.zero_le _, Lib.hid (Only.refl _ _)⟩
          case round =>
            obtain ⟨k, rfl, hk, HOr⟩ := hrel
            by_cases hlt : k < N
            · obtain ⟨a2, ha2⟩ : ∃ a2, L2[k]? = some a2 := ⟨_, List.getElem?_eq_getElem (by have := congrArg List.length HT2.out; rw [List.length_map, HN.out] at this; omega)⟩
              obtain ⟨aw, haw⟩ : ∃ aw, LW[k]? = some aw := ⟨_, List.getElem?_eq_getElem (by have := congrArg List.length ht1.out; rw [List.length_map, HN.out] at this; omega)⟩
              have htr : a2.tr = aw.tr := by
                have h1 := congrArg (·[k]?) HT2.out
                have h2 := congrArg (·[k]?) ht1.out
                simp only [List.getElem?_map, ha2, haw, Option.map_some] at h1 h2
                have h3 := h1.trans h2.symm
                injection h3
              have ov := OV.out.trans HOr.out (by simp)
              have HSAME := Lib.hid (fun W' (o : Only [] wr W') => (refsameV a2 aw W' (((HR2.out.sub a2 (List.mem_of_getElem? ha2)).keep ov).keep o) (((HR1.out.sub aw (List.mem_of_getElem? haw)).keep ov).keep o)).mono fun r w' ⟨h1, h2⟩ => (show r = Ending.returned (.bool true) ∧ Only [] W' w' from ⟨by rw [h1, htr, (Vt.same_iff _ _).2 rfl], h2⟩))
              have hr2 := (HR2.out.row k _ ha2).only ov (by simp)
              have hrw := (HR1.out.row k _ haw).only ov (by simp)
              clear htr ha2 haw ov
              obtain ⟨xk, xn, xs, xA, xcap, xl⟩ := a2
              obtain ⟨yk, yn, ys, yA, ycap, yl⟩ := aw
              obtain ⟨bx, ox, rfl, hbx, x0, x1, x2, x3⟩ := hr2.cells
              obtain ⟨by', oy, rfl, hby, y0, y1, y2, y3⟩ := hrw.cells
              have HS2 := Lib.hid (show ∀ W', Only [] wr W' → Calls Tryd.prog 22 #[.agg #[.int .i64 xk, .int .i64 xn, .string xs, .slice xA xl.length xcap], .agg #[.int .i64 yk, .int .i64 yn, .string ys, .slice yA yl.length ycap]] W' _ from HSAME.out)
              have ik0 : (0 : Int) ≤ (k : Int) := by omega
              have ik1 : (k : Int) < (N : Int) := by omega
              clear hr2 hrw HSAME
              go_wp2_with (fail)
              have HX4 := Lib.hid (And.intro x0 (And.intro x1 (And.intro x2 x3)))
              have HY4 := Lib.hid (And.intro y0 (And.intro y1 (And.intro y2 y3)))
              clear x0 x1 x2 x3 y0 y1 y2 y3
              refine (wpIn_wide (n := 9)).1 ?_
              refine wpIn_region_relR 10 (Only []) (fr := ?frg1) (tl := ?tlg1) (fun iq v wv => match iq with
                | 0 => v = .slice (some ⟨bx, ox, none⟩) N c2
                | 1 => v = .int .i64 (k : Nat)
                | 2 => v = .pointer (some ⟨bx, ox + k * 4, none⟩)
                | 3 => v = .agg #[.int .i64 xk, .int .i64 xn, .string xs, .slice xA xl.length xcap]
                | 4 => v = (.slice (some ⟨by', oy, none⟩) N cW)
                | 5 => v = .int .i64 (k : Nat)
                | 6 => v = (.pointer (some ⟨by', oy + k * 4, none⟩))
                | 7 => v = .agg #[.int .i64 yk, .int .i64 yn, .string ys, .slice yA yl.length ycap]
                | 8 => v = .bool true
                | 9 => v = .bool false
                | _ => True) (.inl rfl) (by kernel_rfl) (by kernel_rfl) (by kernel_rfl) (by kernel_rfl) (by kernel_rfl) (by kernel_rfl) (by decide) ?htlg1 ?hfrg1 (Only.refl _ _) (fun _ _ _ h k => h.trans k (fun _ hx => .inl hx)) ?stabg1 ?stepsg1 ?doneg1
              case htlg1 => simp only [List.drop_succ_cons, List.drop_zero]; rfl
              case hfrg1 => intro vals; simp only [putAll, dstAt, Act.put, List.getElem?_toArray, List.getElem?_cons_zero, List.getElem?_cons_succ, Option.bind_some, List.setIfInBounds_toArray, List.set_cons_zero, List.set_cons_succ]; rfl
              case stabg1 =>
                intro i v wa wb h
                try dsimp only
                split <;> first | exact id
              case stepsg1 =>
                refine ⟨?_, ?_, ?_, ?_, ?_, ?_, ?_, ?_, ?_, ?_, trivial⟩
                · intro vals wr hR hp K hK
                  dsimp only at hK ⊢
                  clear hp
                  unfold RunsOp
                  go_simp
                  exact hK.out _ _ ⟨_, rfl, Only.refl _ _, rfl⟩
                · intro vals wr hR hp K hK
                  dsimp only at hK ⊢
                  clear hp
                  unfold RunsOp
                  go_simp
                  exact hK.out _ _ ⟨_, rfl, Only.refl _ _, rfl⟩
                · intro vals wr hR hp K hK
                  dsimp only at hK ⊢
                  obtain ⟨p0, p1, -⟩ := hp
                  replace p0 := p0 rfl
                  replace p1 := p1 rfl
                  dsimp only at p0 p1
                  rw [p0, p1] at hK ⊢
                  clear p0 p1
                  unfold RunsOp
                  go_simp
                  exact hK.out _ _ ⟨_, rfl, Only.refl _ _, rfl⟩
                · intro vals wr hR hp K hK
                  dsimp only at hK ⊢
                  obtain ⟨p2, -⟩ := hp
                  replace p2 := p2 rfl
                  dsimp only at p2
                  rw [p2] at hK ⊢
                  clear p2
                  unfold RunsOp
                  have c0 := (hR.cell (p := ⟨bx, ox + k * 4, none⟩) hbx (by simp)).trans HX4.out.1
                  have c1 := (hR.cell (p := ⟨bx, ox + k * 4 + 1, none⟩) hbx (by simp)).trans HX4.out.2.1
                  have c2 := (hR.cell (p := ⟨bx, ox + k * 4 + 2, none⟩) hbx (by simp)).trans HX4.out.2.2.1
                  have c3 := (hR.cell (p := ⟨bx, ox + k * 4 + 3, none⟩) hbx (by simp)).trans HX4.out.2.2.2
                  go_simp
                  exact hK.out _ _ ⟨_, rfl, Only.refl _ _, rfl⟩
                · intro vals wr hR hp K hK
                  dsimp only at hK ⊢
                  clear hp
                  unfold RunsOp
                  go_simp
                  exact hK.out _ _ ⟨_, rfl, Only.refl _ _, rfl⟩
                · intro vals wr hR hp K hK
                  dsimp only at hK ⊢
                  clear hp
                  unfold RunsOp
                  go_simp
                  exact hK.out _ _ ⟨_, rfl, Only.refl _ _, rfl⟩
                · intro vals wr hR hp K hK
                  dsimp only at hK ⊢
                  obtain ⟨p4, p5, -⟩ := hp
                  replace p4 := p4 rfl
                  replace p5 := p5 rfl
                  dsimp only at p4 p5
                  rw [p4, p5] at hK ⊢
                  clear p4 p5
                  unfold RunsOp
                  go_simp
                  exact hK.out _ _ ⟨_, rfl, Only.refl _ _, rfl⟩
                · intro vals wr hR hp K hK
                  dsimp only at hK ⊢
                  obtain ⟨p6, -⟩ := hp
                  replace p6 := p6 rfl
                  dsimp only at p6
                  rw [p6] at hK ⊢
                  clear p6
                  unfold RunsOp
                  have c0 := (hR.cell (p := ⟨by', oy + k * 4, none⟩) hby (by simp)).trans HY4.out.1
                  have c1 := (hR.cell (p := ⟨by', oy + k * 4 + 1, none⟩) hby (by simp)).trans HY4.out.2.1
                  have c2 := (hR.cell (p := ⟨by', oy + k * 4 + 2, none⟩) hby (by simp)).trans HY4.out.2.2.1
                  have c3 := (hR.cell (p := ⟨by', oy + k * 4 + 3, none⟩) hby (by simp)).trans HY4.out.2.2.2
                  go_simp
                  exact hK.out _ _ ⟨_, rfl, Only.refl _ _, rfl⟩
                · intro vals wr hR hp K hK
                  dsimp only at hK ⊢
                  obtain ⟨p3, p7, -⟩ := hp
                  replace p3 := p3 rfl
                  replace p7 := p7 rfl
                  dsimp only at p3 p7
                  rw [p3, p7] at hK ⊢
                  clear p3 p7
                  unfold RunsOp
                  go_simp
                  refine (HS2.out _ ((Only.refl [] _).drew.trans hR (by simp))).mono ?_
                  rintro e w2 ⟨rfl, o2⟩
                  exact hK.out _ _ ⟨_, rfl, o2, rfl⟩
                · intro vals wr hR hp K hK
                  dsimp only at hK ⊢
                  obtain ⟨p8, -⟩ := hp
                  replace p8 := p8 rfl
                  dsimp only at p8
                  rw [p8] at hK ⊢
                  clear p8
                  unfold RunsOp
                  go_simp
                  exact hK.out _ _ ⟨_, rfl, Only.refl _ _, rfl⟩
              case doneg1 =>
                intro vals wd hR hF
                have f0 : vals 0 = .slice (some ⟨bx, ox, none⟩) N c2 := hF 0 (by decide)
                have f1 : vals 1 = .int .i64 (k : Nat) := hF 1 (by decide)
                have f2 : vals 2 = .pointer (some ⟨bx, ox + k * 4, none⟩) := hF 2 (by decide)
                have f3 : vals 3 = .agg #[.int .i64 xk, .int .i64 xn, .string xs, .slice xA xl.length xcap] := hF 3 (by decide)
                have f4 : vals 4 = (.slice (some ⟨by', oy, none⟩) N cW) := hF 4 (by decide)
                have f5 : vals 5 = .int .i64 (k : Nat) := hF 5 (by decide)
                have f6 : vals 6 = (.pointer (some ⟨by', oy + k * 4, none⟩)) := hF 6 (by decide)
                have f7 : vals 7 = .agg #[.int .i64 yk, .int .i64 yn, .string ys, .slice yA yl.length ycap] := hF 7 (by decide)
                have f8 : (vals 8) = .bool true := hF 8 (by decide)
                have f9 : vals 9 = .bool false := hF 9 (by decide)
                rw [f0, f1, f2, f3, f4, f5, f6, f7, f9]
                clear f0 f1 f2 f3 f4 f5 f6 f7 f9
                rw [f8]
                clear f8
                have HOz := Lib.hid (HOr.out.trans ((Only.refl [] _).drew.trans hR (by simp)) (by simp))
                clear hR hF
                gi_wp2_with (fail)
                go_wp2_with (fail)
                go_roundw
                case rel => exact ⟨k + 1, by go_num, by omega, HOz⟩
                case measure => simp [intOf]; omega
            · have hke : k = N := by omega
              have iz : ¬ (N : Int) < (N : Int) := by omega
              rw [hke]
              clear hke hlt hk
              go_wp2_with (fail)
              have HDr := (HOr.out.block D (Array.getElem?_eq_some_iff.1 HD.out).1 (by simp)).trans HD.out
              refine ⟨by simp, .inl ⟨_, _, rfl, run_takeDeferred HDr, ?_⟩⟩
              have hk := KeepC.putObj (B := D) (o' := .deferred none) HDr rfl (Nat.le_refl _)
              exact ⟨_, results_tmp rfl _ _ _, rfl, (OW.out.trans HOr.out (by simp)).keepC hk (by have := HDl.out; have := O9.out.size; omega)⟩
        · have d2 : decide ((m : Int) < (N : Int)) = true := decide_eq_true (by omega)
          have d2n : decide (m < N) = true := decide_eq_true (by omega)
          have d3 : ((m : Int) != max z 1) = false := by rcases HMS.out with h | h; exact absurd h hmn; rw [h]; simp
          have HMN := Lib.hid hmn
          clear hmn
          go_wp2_with (fail)
          clear z0 zl n0 nl d1 d1n d2 d2n d3
          go_loopw [8] (fun i wr => ∃ k : Nat, i = .int .i64 k ∧ k ≤ N ∧ Hid (Only [] W wr)) (fun i _ => N - (intOf i).toNat)
          case atStart => exact ⟨0, rfl, Nat.zero_le _, Lib.hid (Only.refl _ _)⟩
          case round =>
            obtain ⟨k, rfl, hk, HOr⟩ := hrel
            by_cases hlt : k < N
            · obtain ⟨a2, ha2⟩ : ∃ a2, L2[k]? = some a2 := ⟨_, List.getElem?_eq_getElem (by have := congrArg List.length HT2.out; rw [List.length_map, HN.out] at this; omega)⟩
              obtain ⟨aw, haw⟩ : ∃ aw, LW[k]? = some aw := ⟨_, List.getElem?_eq_getElem (by have := congrArg List.length ht1.out; rw [List.length_map, HN.out] at this; omega)⟩
              have htr : a2.tr = aw.tr := by
                have h1 := congrArg (·[k]?) HT2.out
                have h2 := congrArg (·[k]?) ht1.out
                simp only [List.getElem?_map, ha2, haw, Option.map_some] at h1 h2
                have h3 := h1.trans h2.symm
                injection h3
              have ov := OV.out.trans HOr.out (by simp)
              have HSAME := Lib.hid (fun W' (o : Only [] wr W') => (refsameV a2 aw W' (((HR2.out.sub a2 (List.mem_of_getElem? ha2)).keep ov).keep o) (((HR1.out.sub aw (List.mem_of_getElem? haw)).keep ov).keep o)).mono fun r w' ⟨h1, h2⟩ => (show r = Ending.returned (.bool true) ∧ Only [] W' w' from ⟨by rw [h1, htr, (Vt.same_iff _ _).2 rfl], h2⟩))
              have hr2 := (HR2.out.row k _ ha2).only ov (by simp)
              have hrw := (HR1.out.row k _ haw).only ov (by simp)
              clear htr ha2 haw ov
              obtain ⟨xk, xn, xs, xA, xcap, xl⟩ := a2
              obtain ⟨yk, yn, ys, yA, ycap, yl⟩ := aw
              obtain ⟨bx, ox, rfl, hbx, x0, x1, x2, x3⟩ := hr2.cells
              obtain ⟨by', oy, rfl, hby, y0, y1, y2, y3⟩ := hrw.cells
              have HS2 := Lib.hid (show ∀ W', Only [] wr W' → Calls Tryd.prog 22 #[.agg #[.int .i64 xk, .int .i64 xn, .string xs, .slice xA xl.length xcap], .agg #[.int .i64 yk, .int .i64 yn, .string ys, .slice yA yl.length ycap]] W' _ from HSAME.out)
              have ik0 : (0 : Int) ≤ (k : Int) := by omega
              have ik1 : (k : Int) < (N : Int) := by omega
              clear hr2 hrw HSAME
              go_wp2_with (fail)
              have HX4 := Lib.hid (And.intro x0 (And.intro x1 (And.intro x2 x3)))
              have HY4 := Lib.hid (And.intro y0 (And.intro y1 (And.intro y2 y3)))
              clear x0 x1 x2 x3 y0 y1 y2 y3
              refine (wpIn_wide (n := 9)).1 ?_
              refine wpIn_region_relR 10 (Only []) (fr := ?frg2) (tl := ?tlg2) (fun iq v wv => match iq with
                | 0 => v = .slice (some ⟨bx, ox, none⟩) N c2
                | 1 => v = .int .i64 (k : Nat)
                | 2 => v = .pointer (some ⟨bx, ox + k * 4, none⟩)
                | 3 => v = .agg #[.int .i64 xk, .int .i64 xn, .string xs, .slice xA xl.length xcap]
                | 4 => v = (.slice (some ⟨by', oy, none⟩) N cW)
                | 5 => v = .int .i64 (k : Nat)
                | 6 => v = (.pointer (some ⟨by', oy + k * 4, none⟩))
                | 7 => v = .agg #[.int .i64 yk, .int .i64 yn, .string ys, .slice yA yl.length ycap]
                | 8 => v = .bool true
                | 9 => v = .bool false
                | _ => True) (.inl rfl) (by kernel_rfl) (by kernel_rfl) (by kernel_rfl) (by kernel_rfl) (by kernel_rfl) (by kernel_rfl) (by decide) ?htlg2 ?hfrg2 (Only.refl _ _) (fun _ _ _ h k => h.trans k (fun _ hx => .inl hx)) ?stabg2 ?stepsg2 ?doneg2
              case htlg2 => simp only [List.drop_succ_cons, List.drop_zero]; rfl
              case hfrg2 => intro vals; simp only [putAll, dstAt, Act.put, List.getElem?_toArray, List.getElem?_cons_zero, List.getElem?_cons_succ, Option.bind_some, List.setIfInBounds_toArray, List.set_cons_zero, List.set_cons_succ]; rfl
              case stabg2 =>
                intro i v wa wb h
                try dsimp only
                split <;> first | exact id
              case stepsg2 =>
                refine ⟨?_, ?_, ?_, ?_, ?_, ?_, ?_, ?_, ?_, ?_, trivial⟩
                · intro vals wr hR hp K hK
                  dsimp only at hK ⊢
                  clear hp
                  unfold RunsOp
                  go_simp
                  exact hK.out _ _ ⟨_, rfl, Only.refl _ _, rfl⟩
                · intro vals wr hR hp K hK
                  dsimp only at hK ⊢
                  clear hp
                  unfold RunsOp
                  go_simp
                  exact hK.out _ _ ⟨_, rfl, Only.refl _ _, rfl⟩
                · intro vals wr hR hp K hK
                  dsimp only at hK ⊢
                  obtain ⟨p0, p1, -⟩ := hp
                  replace p0 := p0 rfl
                  replace p1 := p1 rfl
                  dsimp only at p0 p1
                  rw [p0, p1] at hK ⊢
                  clear p0 p1
                  unfold RunsOp
                  go_simp
                  exact hK.out _ _ ⟨_, rfl, Only.refl _ _, rfl⟩
                · intro vals wr hR hp K hK
                  dsimp only at hK ⊢
                  obtain ⟨p2, -⟩ := hp
                  replace p2 := p2 rfl
                  dsimp only at p2
                  rw [p2] at hK ⊢
                  clear p2
                  unfold RunsOp
                  have c0 := (hR.cell (p := ⟨bx, ox + k * 4, none⟩) hbx (by simp)).trans HX4.out.1
                  have c1 := (hR.cell (p := ⟨bx, ox + k * 4 + 1, none⟩) hbx (by simp)).trans HX4.out.2.1
                  have c2 := (hR.cell (p := ⟨bx, ox + k * 4 + 2, none⟩) hbx (by simp)).trans HX4.out.2.2.1
                  have c3 := (hR.cell (p := ⟨bx, ox + k * 4 + 3, none⟩) hbx (by simp)).trans HX4.out.2.2.2
                  go_simp
                  exact hK.out _ _ ⟨_, rfl, Only.refl _ _, rfl⟩
                · intro vals wr hR hp K hK
                  dsimp only at hK ⊢
                  clear hp
                  unfold RunsOp
                  go_simp
                  exact hK.out _ _ ⟨_, rfl, Only.refl _ _, rfl⟩
                · intro vals wr hR hp K hK
                  dsimp only at hK ⊢
                  clear hp
                  unfold RunsOp
                  go_simp
                  exact hK.out _ _ ⟨_, rfl, Only.refl _ _, rfl⟩
                · intro vals wr hR hp K hK
                  dsimp only at hK ⊢
                  obtain ⟨p4, p5, -⟩ := hp
                  replace p4 := p4 rfl
                  replace p5 := p5 rfl
                  dsimp only at p4 p5
                  rw [p4, p5] at hK ⊢
                  clear p4 p5
                  unfold RunsOp
                  go_simp
                  exact hK.out _ _ ⟨_, rfl, Only.refl _ _, rfl⟩
                · intro vals wr hR hp K hK
                  dsimp only at hK ⊢
                  obtain ⟨p6, -⟩ := hp
                  replace p6 := p6 rfl
                  dsimp only at p6
                  rw [p6] at hK ⊢
                  clear p6
                  unfold RunsOp
                  have c0 := (hR.cell (p := ⟨by', oy + k * 4, none⟩) hby (by simp)).trans HY4.out.1
                  have c1 := (hR.cell (p := ⟨by', oy + k * 4 + 1, none⟩) hby (by simp)).trans HY4.out.2.1
                  have c2 := (hR.cell (p := ⟨by', oy + k * 4 + 2, none⟩) hby (by simp)).trans HY4.out.2.2.1
                  have c3 := (hR.cell (p := ⟨by', oy + k * 4 + 3, none⟩) hby (by simp)).trans HY4.out.2.2.2
                  go_simp
                  exact hK.out _ _ ⟨_, rfl, Only.refl _ _, rfl⟩
                · intro vals wr hR hp K hK
                  dsimp only at hK ⊢
                  obtain ⟨p3, p7, -⟩ := hp
                  replace p3 := p3 rfl
                  replace p7 := p7 rfl
                  dsimp only at p3 p7
                  rw [p3, p7] at hK ⊢
                  clear p3 p7
                  unfold RunsOp
                  go_simp
                  refine (HS2.out _ ((Only.refl [] _).drew.trans hR (by simp))).mono ?_
                  rintro e w2 ⟨rfl, o2⟩
                  exact hK.out _ _ ⟨_, rfl, o2, rfl⟩
                · intro vals wr hR hp K hK
                  dsimp only at hK ⊢
                  obtain ⟨p8, -⟩ := hp
                  replace p8 := p8 rfl
                  dsimp only at p8
                  rw [p8] at hK ⊢
                  clear p8
                  unfold RunsOp
                  go_simp
                  exact hK.out _ _ ⟨_, rfl, Only.refl _ _, rfl⟩
              case doneg2 =>
                intro vals wd hR hF
                have f0 : vals 0 = .slice (some ⟨bx, ox, none⟩) N c2 := hF 0 (by decide)
                have f1 : vals 1 = .int .i64 (k : Nat) := hF 1 (by decide)
                have f2 : vals 2 = .pointer (some ⟨bx, ox + k * 4, none⟩) := hF 2 (by decide)
                have f3 : vals 3 = .agg #[.int .i64 xk, .int .i64 xn, .string xs, .slice xA xl.length xcap] := hF 3 (by decide)
                have f4 : vals 4 = (.slice (some ⟨by', oy, none⟩) N cW) := hF 4 (by decide)
                have f5 : vals 5 = .int .i64 (k : Nat) := hF 5 (by decide)
                have f6 : vals 6 = (.pointer (some ⟨by', oy + k * 4, none⟩)) := hF 6 (by decide)
                have f7 : vals 7 = .agg #[.int .i64 yk, .int .i64 yn, .string ys, .slice yA yl.length ycap] := hF 7 (by decide)
                have f8 : (vals 8) = .bool true := hF 8 (by decide)
                have f9 : vals 9 = .bool false := hF 9 (by decide)
                rw [f0, f1, f2, f3, f4, f5, f6, f7, f9]
                clear f0 f1 f2 f3 f4 f5 f6 f7 f9
                rw [f8]
                clear f8
                have HOz := Lib.hid (HOr.out.trans ((Only.refl [] _).drew.trans hR (by simp)) (by simp))
                clear hR hF
                gi_wp2_with (fail)
                go_wp2_with (fail)
                go_roundw
                case rel => exact ⟨k + 1, by go_num, by omega, HOz⟩
                case measure => simp [intOf]; omega
            · have hke : k = N := by omega
              have iz : ¬ (N : Int) < (N : Int) := by omega
              rw [hke]
              clear hke hlt hk
              go_wp2_with (fail)
              have HDr := (HOr.out.block D (Array.getElem?_eq_some_iff.1 HD.out).1 (by simp)).trans HD.out
              refine ⟨by simp, .inl ⟨_, _, rfl, run_takeDeferred HDr, ?_⟩⟩
              have hk := KeepC.putObj (B := D) (o' := .deferred none) HDr rfl (Nat.le_refl _)
              exact ⟨_, results_tmp rfl _ _ _, rfl, (OW.out.trans HOr.out (by simp)).keepC hk (by have := HDl.out; have := O9.out.size; omega)⟩
      case stop =>
        rintro D c W hD ⟨rfl, ⟨m, hb, hm1, hmN, hm2, hm3⟩, hO⟩ hK
        have HMS := Lib.hid (show m = N ∨ (m : Int) = max z 1 from .inr (by omega))
        clear hm1 hm2 hm3
        have HD := Lib.hid hK
        have HDl := Lib.hid hD
        have OW := Lib.hid (show Only [] w W from O9.out.trans hO (fun b hb => by simp at hb; right; omega))
        have OV := Lib.hid (show Only [] w6 W from O79.out.trans hO (fun b hb => by have := HNB.out; simp at hb; right; omega))
        obtain ⟨z0, zl⟩ := (hO.blk XZ9.out (by simp; omega)).facts1
        obtain ⟨n0, nl⟩ := hb.facts1
        clear hb hO hK hD hqs
        have d1 : decide ((N : Int) < (m : Int)) = false := decide_eq_false (by omega)
        have d1n : decide (N < m) = false := decide_eq_false (by omega)
        by_cases hmn : m = N
        · have d2 : decide ((m : Int) < (N : Int)) = false := decide_eq_false (by omega)
          have d2n : decide (m < N) = false := decide_eq_false (by omega)
          have HMN := Lib.hid hmn
          clear hmn
          go_wp2_with (fail)
          clear z0 zl n0 nl d1 d1n d2 d2n
          go_loopw [8] (fun i wr => ∃ k : Nat, i = .int .i64 k ∧ k ≤ N ∧ Hid (Only [] W wr)) (fun i _ => N - (intOf i).toNat)
          case atStart => exact ⟨0, rfl, Nat.zero_le _, Lib.hid (Only.refl _ _)⟩
          case round =>
            obtain ⟨k, rfl, hk, HOr⟩ := hrel
            by_cases hlt : k < N
            · obtain ⟨a2, ha2⟩ : ∃ a2, L2[k]? = some a2 := ⟨_, List.getElem?_eq_getElem (by have := congrArg List.length HT2.out; rw [List.length_map, HN.out] at this; omega)⟩
              obtain ⟨aw, haw⟩ : ∃ aw, LW[k]? = some aw := ⟨_, List.getElem?_eq_getElem (by have := congrArg List.length ht1.out; rw [List.length_map, HN.out] at this; omega)⟩
              have htr : a2.tr = aw.tr := by
                have h1 := congrArg (·[k]?) HT2.out
                have h2 := congrArg (·[k]?) ht1.out
                simp only [List.getElem?_map, ha2, haw, Option.map_some] at h1 h2
                have h3 := h1.trans h2.symm
                injection h3
              have ov := OV.out.trans HOr.out (by simp)
              have HSAME := Lib.hid (fun W' (o : Only [] wr W') => (refsameV a2 aw W' (((HR2.out.sub a2 (List.mem_of_getElem? ha2)).keep ov).keep o) (((HR1.out.sub aw (List.mem_of_getElem? haw)).keep ov).keep o)).mono fun r w' ⟨h1, h2⟩ => (show r = Ending.returned (.bool true) ∧ Only [] W' w' from ⟨by rw [h1, htr, (Vt.same_iff _ _).2 rfl], h2⟩))
              have hr2 := (HR2.out.row k _ ha2).only ov (by simp)
              have hrw := (HR1.out.row k _ haw).only ov (by simp)
              clear htr ha2 haw ov
              obtain ⟨xk, xn, xs, xA, xcap, xl⟩ := a2
              obtain ⟨yk, yn, ys, yA, ycap, yl⟩ := aw
              obtain ⟨bx, ox, rfl, hbx, x0, x1, x2, x3⟩ := hr2.cells
              obtain ⟨by', oy, rfl, hby, y0, y1, y2, y3⟩ := hrw.cells
              have HS2 := Lib.hid (show ∀ W', Only [] wr W' → Calls Tryd.prog 22 #[.agg #[.int .i64 xk, .int .i64 xn, .string xs, .slice xA xl.length xcap], .agg #[.int .i64 yk, .int .i64 yn, .string ys, .slice yA yl.length ycap]] W' _ from HSAME.out)
              have ik0 : (0 : Int) ≤ (k : Int) := by omega
              have ik1 : (k : Int) < (N : Int) := by omega
              clear hr2 hrw HSAME
              go_wp2_with (fail)
              have HX4 := Lib.hid (And.intro x0 (And.intro x1 (And.intro x2 x3)))
              have HY4 := Lib.hid (And.intro y0 (And.intro y1 (And.intro y2 y3)))
              clear x0 x1 x2 x3 y0 y1 y2 y3
              refine (wpIn_wide (n := 9)).1 ?_
              refine wpIn_region_relR 10 (Only []) (fr := ?frg3) (tl := ?tlg3) (fun iq v wv => match iq with
                | 0 => v = .slice (some ⟨bx, ox, none⟩) N c2
                | 1 => v = .int .i64 (k : Nat)
                | 2 => v = .pointer (some ⟨bx, ox + k * 4, none⟩)
                | 3 => v = .agg #[.int .i64 xk, .int .i64 xn, .string xs, .slice xA xl.length xcap]
                | 4 => v = (.slice (some ⟨by', oy, none⟩) N cW)
                | 5 => v = .int .i64 (k : Nat)
                | 6 => v = (.pointer (some ⟨by', oy + k * 4, none⟩))
                | 7 => v = .agg #[.int .i64 yk, .int .i64 yn, .string ys, .slice yA yl.length ycap]
                | 8 => v = .bool true
                | 9 => v = .bool false
                | _ => True) (.inl rfl) (by kernel_rfl) (by kernel_rfl) (by kernel_rfl) (by kernel_rfl) (by kernel_rfl) (by kernel_rfl) (by decide) ?htlg3 ?hfrg3 (Only.refl _ _) (fun _ _ _ h k => h.trans k (fun _ hx => .inl hx)) ?stabg3 ?stepsg3 ?doneg3
              case htlg3 => simp only [List.drop_succ_cons, List.drop_zero]; rfl
              case hfrg3 => intro vals; simp only [putAll, dstAt, Act.put, List.getElem?_toArray, List.getElem?_cons_zero, List.getElem?_cons_succ, Option.bind_some, List.setIfInBounds_toArray, List.set_cons_zero, List.set_cons_succ]; rfl
              case stabg3 =>
                intro i v wa wb h
                try dsimp only
                split <;> first | exact id
              case stepsg3 =>
                refine ⟨?_, ?_, ?_, ?_, ?_, ?_, ?_, ?_, ?_, ?_, trivial⟩
                · intro vals wr hR hp K hK
                  dsimp only at hK ⊢
                  clear hp
                  unfold RunsOp
                  go_simp
                  exact hK.out _ _ ⟨_, rfl, Only.refl _ _, rfl⟩
                · intro vals wr hR hp K hK
                  dsimp only at hK ⊢
                  clear hp
                  unfold RunsOp
                  go_simp
                  exact hK.out _ _ ⟨_, rfl, Only.refl _ _, rfl⟩
                · intro vals wr hR hp K hK
                  dsimp only at hK ⊢
                  obtain ⟨p0, p1, -⟩ := hp
                  replace p0 := p0 rfl
                  replace p1 := p1 rfl
                  dsimp only at p0 p1
                  rw [p0, p1] at hK ⊢
                  clear p0 p1
                  unfold RunsOp
                  go_simp
                  exact hK.out _ _ ⟨_, rfl, Only.refl _ _, rfl⟩
                · intro vals wr hR hp K hK
                  dsimp only at hK ⊢
                  obtain ⟨p2, -⟩ := hp
                  replace p2 := p2 rfl
                  dsimp only at p2
                  rw [p2] at hK ⊢
                  clear p2
                  unfold RunsOp
                  have c0 := (hR.cell (p := ⟨bx, ox + k * 4, none⟩) hbx (by simp)).trans HX4.out.1
                  have c1 := (hR.cell (p := ⟨bx, ox + k * 4 + 1, none⟩) hbx (by simp)).trans HX4.out.2.1
                  have c2 := (hR.cell (p := ⟨bx, ox + k * 4 + 2, none⟩) hbx (by simp)).trans HX4.out.2.2.1
                  have c3 := (hR.cell (p := ⟨bx, ox + k * 4 + 3, none⟩) hbx (by simp)).trans HX4.out.2.2.2
                  go_simp
                  exact hK.out _ _ ⟨_, rfl, Only.refl _ _, rfl⟩
                · intro vals wr hR hp K hK
                  dsimp only at hK ⊢
                  clear hp
                  unfold RunsOp
                  go_simp
                  exact hK.out _ _ ⟨_, rfl, Only.refl _ _, rfl⟩
                · intro vals wr hR hp K hK
                  dsimp only at hK ⊢
                  clear hp
                  unfold RunsOp
                  go_simp
                  exact hK.out _ _ ⟨_, rfl, Only.refl _ _, rfl⟩
                · intro vals wr hR hp K hK
                  dsimp only at hK ⊢
                  obtain ⟨p4, p5, -⟩ := hp
                  replace p4 := p4 rfl
                  replace p5 := p5 rfl
                  dsimp only at p4 p5
                  rw [p4, p5] at hK ⊢
                  clear p4 p5
                  unfold RunsOp
                  go_simp
                  exact hK.out _ _ ⟨_, rfl, Only.refl _ _, rfl⟩
                · intro vals wr hR hp K hK
                  dsimp only at hK ⊢
                  obtain ⟨p6, -⟩ := hp
                  replace p6 := p6 rfl
                  dsimp only at p6
                  rw [p6] at hK ⊢
                  clear p6
                  unfold RunsOp
                  have c0 := (hR.cell (p := ⟨by', oy + k * 4, none⟩) hby (by simp)).trans HY4.out.1
                  have c1 := (hR.cell (p := ⟨by', oy + k * 4 + 1, none⟩) hby (by simp)).trans HY4.out.2.1
                  have c2 := (hR.cell (p := ⟨by', oy + k * 4 + 2, none⟩) hby (by simp)).trans HY4.out.2.2.1
                  have c3 := (hR.cell (p := ⟨by', oy + k * 4 + 3, none⟩) hby (by simp)).trans HY4.out.2.2.2
                  go_simp
                  exact hK.out _ _ ⟨_, rfl, Only.refl _ _, rfl⟩
                · intro vals wr hR hp K hK
                  dsimp only at hK ⊢
                  obtain ⟨p3, p7, -⟩ := hp
                  replace p3 := p3 rfl
                  replace p7 := p7 rfl
                  dsimp only at p3 p7
                  rw [p3, p7] at hK ⊢
                  clear p3 p7
                  unfold RunsOp
                  go_simp
                  refine (HS2.out _ ((Only.refl [] _).drew.trans hR (by simp))).mono ?_
                  rintro e w2 ⟨rfl, o2⟩
                  exact hK.out _ _ ⟨_, rfl, o2, rfl⟩
                · intro vals wr hR hp K hK
                  dsimp only at hK ⊢
                  obtain ⟨p8, -⟩ := hp
                  replace p8 := p8 rfl
                  dsimp only at p8
                  rw [p8] at hK ⊢
                  clear p8
                  unfold RunsOp
                  go_simp
                  exact hK.out _ _ ⟨_, rfl, Only.refl _ _, rfl⟩
              case doneg3 =>
                intro vals wd hR hF
                have f0 : vals 0 = .slice (some ⟨bx, ox, none⟩) N c2 := hF 0 (by decide)
                have f1 : vals 1 = .int .i64 (k : Nat) := hF 1 (by decide)
                have f2 : vals 2 = .pointer (some ⟨bx, ox + k * 4, none⟩) := hF 2 (by decide)
                have f3 : vals 3 = .agg #[.int .i64 xk, .int .i64 xn, .string xs, .slice xA xl.length xcap] := hF 3 (by decide)
                have f4 : vals 4 = (.slice (some ⟨by', oy, none⟩) N cW) := hF 4 (by decide)
                have f5 : vals 5 = .int .i64 (k : Nat) := hF 5 (by decide)
                have f6 : vals 6 = (.pointer (some ⟨by', oy + k * 4, none⟩)) := hF 6 (by decide)
                have f7 : vals 7 = .agg #[.int .i64 yk, .int .i64 yn, .string ys, .slice yA yl.length ycap] := hF 7 (by decide)
                have f8 : (vals 8) = .bool true := hF 8 (by decide)
                have f9 : vals 9 = .bool false := hF 9 (by decide)
                rw [f0, f1, f2, f3, f4, f5, f6, f7, f9]
                clear f0 f1 f2 f3 f4 f5 f6 f7 f9
                rw [f8]
                clear f8
                have HOz := Lib.hid (HOr.out.trans ((Only.refl [] _).drew.trans hR (by simp)) (by simp))
                clear hR hF
                gi_wp2_with (fail)
                go_wp2_with (fail)
                go_roundw
                case rel => exact ⟨k + 1, by go_num, by omega, HOz⟩
                case measure => simp [intOf]; omega
            · have hke : k = N := by omega
              have iz : ¬ (N : Int) < (N : Int) := by omega
              rw [hke]
              clear hke hlt hk
              go_wp2_with (fail)
              have HDr := (HOr.out.block D (Array.getElem?_eq_some_iff.1 HD.out).1 (by simp)).trans HD.out
              refine ⟨by simp, .inl ⟨_, _, rfl, run_takeDeferred HDr, ?_⟩⟩
              have hk := KeepC.putObj (B := D) (o' := .deferred none) HDr rfl (Nat.le_refl _)
              exact ⟨_, results_tmp rfl _ _ _, rfl, (OW.out.trans HOr.out (by simp)).keepC hk (by have := HDl.out; have := O9.out.size; omega)⟩
        · have d2 : decide ((m : Int) < (N : Int)) = true := decide_eq_true (by omega)
          have d2n : decide (m < N) = true := decide_eq_true (by omega)
          have d3 : ((m : Int) != max z 1) = false := by rcases HMS.out with h | h; exact absurd h hmn; rw [h]; simp
          have HMN := Lib.hid hmn
          clear hmn
          go_wp2_with (fail)
          clear z0 zl n0 nl d1 d1n d2 d2n d3
          go_loopw [8] (fun i wr => ∃ k : Nat, i = .int .i64 k ∧ k ≤ N ∧ Hid (Only [] W wr)) (fun i _ => N - (intOf i).toNat)
          case atStart => exact ⟨0, rfl, Nat.zero_le _, Lib.hid (Only.refl _ _)⟩
          case round =>
            obtain ⟨k, rfl, hk, HOr⟩ := hrel
            by_cases hlt : k < N
            · obtain ⟨a2, ha2⟩ : ∃ a2, L2[k]? = some a2 := ⟨_, List.getElem?_eq_getElem (by have := congrArg List.length HT2.out; rw [List.length_map, HN.out] at this; omega)⟩
              obtain ⟨aw, haw⟩ : ∃ aw, LW[k]? = some aw := ⟨_, List.getElem?_eq_getElem (by have := congrArg List.length ht1.out; rw [List.length_map, HN.out] at this; omega)⟩
              have htr : a2.tr = aw.tr := by
                have h1 := congrArg (·[k]?) HT2.out
                have h2 := congrArg (·[k]?) ht1.out
                simp only [List.getElem?_map, ha2, haw, Option.map_some] at h1 h2
                have h3 := h1.trans h2.symm
                injection h3
              have ov := OV.out.trans HOr.out (by simp)
              have HSAME := Lib.hid (fun W' (o : Only [] wr W') => (refsameV a2 aw W' (((HR2.out.sub a2 (List.mem_of_getElem? ha2)).keep ov).keep o) (((HR1.out.sub aw (List.mem_of_getElem? haw)).keep ov).keep o)).mono fun r w' ⟨h1, h2⟩ => (show r = Ending.returned (.bool true) ∧ Only [] W' w' from ⟨by rw [h1, htr, (Vt.same_iff _ _).2 rfl], h2⟩))
              have hr2 := (HR2.out.row k _ ha2).only ov (by simp)
              have hrw := (HR1.out.row k _ haw).only ov (by simp)
              clear htr ha2 haw ov
              obtain ⟨xk, xn, xs, xA, xcap, xl⟩ := a2
              obtain ⟨yk, yn, ys, yA, ycap, yl⟩ := aw
              obtain ⟨bx, ox, rfl, hbx, x0, x1, x2, x3⟩ := hr2.cells
              obtain ⟨by', oy, rfl, hby, y0, y1, y2, y3⟩ := hrw.cells
              have HS2 := Lib.hid (show ∀ W', Only [] wr W' → Calls Tryd.prog 22 #[.agg #[.int .i64 xk, .int .i64 xn, .string xs, .slice xA xl.length xcap], .agg #[.int .i64 yk, .int .i64 yn, .string ys, .slice yA yl.length ycap]] W' _ from HSAME.out)
              have ik0 : (0 : Int) ≤ (k : Int) := by omega
              have ik1 : (k : Int) < (N : Int) := by omega
              clear hr2 hrw HSAME
              go_wp2_with (fail)
              have HX4 := Lib.hid (And.intro x0 (And.intro x1 (And.intro x2 x3)))
              have HY4 := Lib.hid (And.intro y0 (And.intro y1 (And.intro y2 y3)))
              clear x0 x1 x2 x3 y0 y1 y2 y3
              refine (wpIn_wide (n := 9)).1 ?_
              refine wpIn_region_relR 10 (Only []) (fr := ?frg4) (tl := ?tlg4) (fun iq v wv => match iq with
                | 0 => v = .slice (some ⟨bx, ox, none⟩) N c2
                | 1 => v = .int .i64 (k : Nat)
                | 2 => v = .pointer (some ⟨bx, ox + k * 4, none⟩)
                | 3 => v = .agg #[.int .i64 xk, .int .i64 xn, .string xs, .slice xA xl.length xcap]
                | 4 => v = (.slice (some ⟨by', oy, none⟩) N cW)
                | 5 => v = .int .i64 (k : Nat)
                | 6 => v = (.pointer (some ⟨by', oy + k * 4, none⟩))
                | 7 => v = .agg #[.int .i64 yk, .int .i64 yn, .string ys, .slice yA yl.length ycap]
                | 8 => v = .bool true
                | 9 => v = .bool false
                | _ => True) (.inl rfl) (by kernel_rfl) (by kernel_rfl) (by kernel_rfl) (by kernel_rfl) (by kernel_rfl) (by kernel_rfl) (by decide) ?htlg4 ?hfrg4 (Only.refl _ _) (fun _ _ _ h k => h.trans k (fun _ hx => .inl hx)) ?stabg4 ?stepsg4 ?doneg4
              case htlg4 => simp only [List.drop_succ_cons, List.drop_zero]; rfl
              case hfrg4 => intro vals; simp only [putAll, dstAt, Act.put, List.getElem?_toArray, List.getElem?_cons_zero, List.getElem?_cons_succ, Option.bind_some, List.setIfInBounds_toArray, List.set_cons_zero, List.set_cons_succ]; rfl
              case stabg4 =>
                intro i v wa wb h
                try dsimp only
                split <;> first | exact id
              case stepsg4 =>
                refine ⟨?_, ?_, ?_, ?_, ?_, ?_, ?_, ?_, ?_, ?_, trivial⟩
                · intro vals wr hR hp K hK
                  dsimp only at hK ⊢
                  clear hp
                  unfold RunsOp
                  go_simp
                  exact hK.out _ _ ⟨_, rfl, Only.refl _ _, rfl⟩
                · intro vals wr hR hp K hK
                  dsimp only at hK ⊢
                  clear hp
                  unfold RunsOp
                  go_simp
                  exact hK.out _ _ ⟨_, rfl, Only.refl _ _, rfl⟩
                · intro vals wr hR hp K hK
                  dsimp only at hK ⊢
                  obtain ⟨p0, p1, -⟩ := hp
                  replace p0 := p0 rfl
                  replace p1 := p1 rfl
                  dsimp only at p0 p1
                  rw [p0, p1] at hK ⊢
                  clear p0 p1
                  unfold RunsOp
                  go_simp
                  exact hK.out _ _ ⟨_, rfl, Only.refl _ _, rfl⟩
                · intro vals wr hR hp K hK
                  dsimp only at hK ⊢
                  obtain ⟨p2, -⟩ := hp
                  replace p2 := p2 rfl
                  dsimp only at p2
                  rw [p2] at hK ⊢
                  clear p2
                  unfold RunsOp
                  have c0 := (hR.cell (p := ⟨bx, ox + k * 4, none⟩) hbx (by simp)).trans HX4.out.1
                  have c1 := (hR.cell (p := ⟨bx, ox + k * 4 + 1, none⟩) hbx (by simp)).trans HX4.out.2.1
                  have c2 := (hR.cell (p := ⟨bx, ox + k * 4 + 2, none⟩) hbx (by simp)).trans HX4.out.2.2.1
                  have c3 := (hR.cell (p := ⟨bx, ox + k * 4 + 3, none⟩) hbx (by simp)).trans HX4.out.2.2.2
                  go_simp
                  exact hK.out _ _ ⟨_, rfl, Only.refl _ _, rfl⟩
                · intro vals wr hR hp K hK
                  dsimp only at hK ⊢
                  clear hp
                  unfold RunsOp
                  go_simp
                  exact hK.out _ _ ⟨_, rfl, Only.refl _ _, rfl⟩
                · intro vals wr hR hp K hK
                  dsimp only at hK ⊢
                  clear hp
                  unfold RunsOp
                  go_simp
                  exact hK.out _ _ ⟨_, rfl, Only.refl _ _, rfl⟩
                · intro vals wr hR hp K hK
                  dsimp only at hK ⊢
                  obtain ⟨p4, p5, -⟩ := hp
                  replace p4 := p4 rfl
                  replace p5 := p5 rfl
                  dsimp only at p4 p5
                  rw [p4, p5] at hK ⊢
                  clear p4 p5
                  unfold RunsOp
                  go_simp
                  exact hK.out _ _ ⟨_, rfl, Only.refl _ _, rfl⟩
                · intro vals wr hR hp K hK
                  dsimp only at hK ⊢
                  obtain ⟨p6, -⟩ := hp
                  replace p6 := p6 rfl
                  dsimp only at p6
                  rw [p6] at hK ⊢
                  clear p6
                  unfold RunsOp
                  have c0 := (hR.cell (p := ⟨by', oy + k * 4, none⟩) hby (by simp)).trans HY4.out.1
                  have c1 := (hR.cell (p := ⟨by', oy + k * 4 + 1, none⟩) hby (by simp)).trans HY4.out.2.1
                  have c2 := (hR.cell (p := ⟨by', oy + k * 4 + 2, none⟩) hby (by simp)).trans HY4.out.2.2.1
                  have c3 := (hR.cell (p := ⟨by', oy + k * 4 + 3, none⟩) hby (by simp)).trans HY4.out.2.2.2
                  go_simp
                  exact hK.out _ _ ⟨_, rfl, Only.refl _ _, rfl⟩
                · intro vals wr hR hp K hK
                  dsimp only at hK ⊢
                  obtain ⟨p3, p7, -⟩ := hp
                  replace p3 := p3 rfl
                  replace p7 := p7 rfl
                  dsimp only at p3 p7
                  rw [p3, p7] at hK ⊢
                  clear p3 p7
                  unfold RunsOp
                  go_simp
                  refine (HS2.out _ ((Only.refl [] _).drew.trans hR (by simp))).mono ?_
                  rintro e w2 ⟨rfl, o2⟩
                  exact hK.out _ _ ⟨_, rfl, o2, rfl⟩
                · intro vals wr hR hp K hK
                  dsimp only at hK ⊢
                  obtain ⟨p8, -⟩ := hp
                  replace p8 := p8 rfl
                  dsimp only at p8
                  rw [p8] at hK ⊢
                  clear p8
                  unfold RunsOp
                  go_simp
                  exact hK.out _ _ ⟨_, rfl, Only.refl _ _, rfl⟩
              case doneg4 =>
                intro vals wd hR hF
                have f0 : vals 0 = .slice (some ⟨bx, ox, none⟩) N c2 := hF 0 (by decide)
                have f1 : vals 1 = .int .i64 (k : Nat) := hF 1 (by decide)
                have f2 : vals 2 = .pointer (some ⟨bx, ox + k * 4, none⟩) := hF 2 (by decide)
                have f3 : vals 3 = .agg #[.int .i64 xk, .int .i64 xn, .string xs, .slice xA xl.length xcap] := hF 3 (by decide)
                have f4 : vals 4 = (.slice (some ⟨by', oy, none⟩) N cW) := hF 4 (by decide)
                have f5 : vals 5 = .int .i64 (k : Nat) := hF 5 (by decide)
                have f6 : vals 6 = (.pointer (some ⟨by', oy + k * 4, none⟩)) := hF 6 (by decide)
                have f7 : vals 7 = .agg #[.int .i64 yk, .int .i64 yn, .string ys, .slice yA yl.length ycap] := hF 7 (by decide)
                have f8 : (vals 8) = .bool true := hF 8 (by decide)
                have f9 : vals 9 = .bool false := hF 9 (by decide)
                rw [f0, f1, f2, f3, f4, f5, f6, f7, f9]
                clear f0 f1 f2 f3 f4 f5 f6 f7 f9
                rw [f8]
                clear f8
                have HOz := Lib.hid (HOr.out.trans ((Only.refl [] _).drew.trans hR (by simp)) (by simp))
                clear hR hF
                gi_wp2_with (fail)
                go_wp2_with (fail)
                go_roundw
                case rel => exact ⟨k + 1, by go_num, by omega, HOz⟩
                case measure => simp [intOf]; omega
            · have hke : k = N := by omega
              have iz : ¬ (N : Int) < (N : Int) := by omega
              rw [hke]
              clear hke hlt hk
              go_wp2_with (fail)
              have HDr := (HOr.out.block D (Array.getElem?_eq_some_iff.1 HD.out).1 (by simp)).trans HD.out
              refine ⟨by simp, .inl ⟨_, _, rfl, run_takeDeferred HDr, ?_⟩⟩
              have hk := KeepC.putObj (B := D) (o' := .deferred none) HDr rfl (Nat.le_refl _)
              exact ⟨_, results_tmp rfl _ _ _, rfl, (OW.out.trans HOr.out (by simp)).keepC hk (by have := HDl.out; have := O9.out.size; omega)⟩
end Go.Proofs.YtgpljjejfebhoaaDoor
