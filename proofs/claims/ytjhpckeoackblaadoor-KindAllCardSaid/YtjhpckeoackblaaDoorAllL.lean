/- KindAll. -/
import Derived.Test.YtjhpckeoackblaaDoorType
import Derived.Test.YtjhpckeoackblaaDoorOf
import Derived.Test.YtjhpckeoackblaaDoorRangeP
import Derived.Test.YtjhpckeoackblaaDoorTypes0
import Derived.Test.YtjhpckeoackblaaDoorSmall
import Derived.Test.YtjhpckeoackblaaDoorRType
namespace Go.Proofs.YtjhpckeoackblaaDoor
open Go.RowKit Go.Kx
open Go.Val (Tt)
set_option maxRecDepth 100000
attribute [local go_sem] Oper.semAt_some
/-- what Type told -/
inductive To where
  | mk (k : Int) (A : Option Addr) (cap : Nat) (l : List Tx) (e : Int)
def To.cs : To → List Value
  | .mk k A cap l e => [.int .i64 k, .slice A l.length cap, .int .i64 e]
def To.t : To → Tx
  | .mk k A cap l _ => .mk k A cap l
def To.tr : To → Tt × Int
  | .mk k A cap l e => ((Tx.mk k A cap l).tr, e)
theorem tcs_len (a : To) : a.cs.length = 3 := by cases a; rfl
theorem tcs_one (a : To) : ∀ u ∈ a.cs, u.oneCell' = true := by
  intro u hu
  cases a
  simp [To.cs] at hu
  rcases hu with rfl | rfl | rfl <;> rfl
theorem infoT74 : ((Tryd.prog.info? 74).map fun i => (i.zero, i.size, i.bytes)) = some (some (.agg #[.int .i64 0, .slice none 0 0, .int .i64 0]), 3, 40) := by kernel_rfl
/-- what All keeps -/
structure TB (w : World) (cb : Nat) (A : Option Addr) (c : Nat) (L : List To) : Prop where
  blk : Blk w cb 72 #[.slice A L.length c]
  row : ∀ i x, L[i]? = some x → ∃ b o, A = some ⟨b, o, none⟩ ∧ b < w.heap.size ∧ ∀ j v, x.cs[j]? = some v → w.cell? ⟨b, o + i * 3 + j, none⟩ = some v
  lies : ∀ x ∈ L, LiesT w x.t
  ok : ∀ x ∈ L, x.t.tr.ok 3 = true
/-- its blocks -/
def blks (cb : Nat) (A : Option Addr) (L : List To) : List Nat := cb :: (A.toList.map (·.block) ++ L.flatMap (·.t.bks))
theorem TB.keepC {B : Nat} {w w' : World} {cb : Nat} {A : Option Addr} {c : Nat} {L : List To} (h : TB w cb A c L) (k : KeepC B w w') : TB w' cb A c L :=
  ⟨k.blk h.blk, fun i x hx => by obtain ⟨b, o, h1, h2, h3⟩ := h.row i x hx; exact ⟨b, o, h1, Nat.lt_of_lt_of_le h2 k.size, fun j v hv => k.cell (h3 j v hv)⟩, fun x hx => (h.lies x hx).keepC k, h.ok⟩
theorem TB.only {S : List Nat} {w w' : World} {cb : Nat} {A : Option Addr} {c : Nat} {L : List To} (h : TB w cb A c L) (o : Only S w w') (hS : ∀ b ∈ blks cb A L, b ∉ S) : TB w' cb A c L :=
  ⟨o.blk h.blk (hS _ (by simp [blks])), fun i x hx => by
    obtain ⟨b, f, h1, h2, h3⟩ := h.row i x hx
    exact ⟨b, f, h1, Nat.lt_of_lt_of_le h2 o.size, fun j v hv => (o.cell (p := ⟨b, f + i * 3 + j, none⟩) h2 (hS b (by subst h1; simp [blks]))).trans (h3 j v hv)⟩,
   fun x hx => (h.lies x hx).only o (fun b hb => hS b (by simp only [blks, List.mem_cons, List.mem_append, List.mem_flatMap]; exact .inr (.inr ⟨x, hx, hb⟩))), h.ok⟩
theorem TB.lt {w : World} {cb : Nat} {A : Option Addr} {c : Nat} {L : List To} (h : TB w cb A c L) (hA : ∀ p, A = some p → p.block < w.heap.size) : ∀ b ∈ blks cb A L, b < w.heap.size := fun b hb => by
  simp only [blks, List.mem_cons, List.mem_append, List.mem_flatMap] at hb
  rcases hb with rfl | hb | ⟨x, hx, hb⟩
  · exact h.blk.lt
  · cases A with
    | none => simp at hb
    | some p => simp at hb; subst hb; exact hA p rfl
  · exact (h.lies x hx).lt b hb
theorem To.cells {w : World} {A : Option Addr} {i : Nat} {k : Int} {B : Option Addr} {cap : Nat} {l : List Tx} {e : Int} (h : ∃ b o, A = some ⟨b, o, none⟩ ∧ b < w.heap.size ∧ ∀ j v, (To.mk k B cap l e).cs[j]? = some v → w.cell? ⟨b, o + i * 3 + j, none⟩ = some v) :
    ∃ b o, A = some ⟨b, o, none⟩ ∧ b < w.heap.size ∧ w.cell? ⟨b, o + i * 3, none⟩ = some (.int .i64 k) ∧ w.cell? ⟨b, o + i * 3 + 1, none⟩ = some (.slice B l.length cap) ∧ w.cell? ⟨b, o + i * 3 + 2, none⟩ = some (.int .i64 e) := by
  obtain ⟨b, o, hA, hb, hc⟩ := h
  exact ⟨b, o, hA, hb, hc 0 _ rfl, hc 1 _ rfl, hc 2 _ rfl⟩
set_option maxHeartbeats 8000000 in
theorem all_any {B0 : Nat} {A1 : Option Addr} {c1 : Nat} {vars : List Vr} {A2 : Option Addr} {c2 : Nat} {ports : List Pr} {bag : Bool} {A3 : Option Addr} {c3 : Nat} {of : List Vr} {A : Option Addr} {cap : Nat} {l : List Ex} {w : World} (hB : B0 ≤ w.heap.size) (hok : OkN vars ports of) (hr : ∀ i e, l[i]? = some e → RowAt w A i e) (hs : ∀ e ∈ l, Lies w e) (hl : l.length ≤ 20) (hW : WordsIs w) (hN : LiesN w A1 vars A2 ports A3 of) :
    Calls Tryd.prog 15 #[.slice A l.length cap, .agg #[.slice A1 vars.length c1, .slice A2 ports.length c2, .bool bag, .slice A3 of.length c3]] w fun r w' => ∃ cb A' c' L, r = .returned (.func (.func 23) #[] #[.pointer (some ⟨cb, 0, none⟩)]) ∧ TB w' cb A' c' L ∧ L.map To.tr = l.map (fun e => e.tr.type ⟨vars.map Vr.tr, ports.map Pr.tr, bag, of.map Vr.tr⟩) ∧ w.heap.size ≤ cb ∧ (∀ b ∈ blks cb A' L, (b < B0 ∨ w.heap.size ≤ b) ∧ b < w'.heap.size) ∧ (∀ p, A' = some p → w.heap.size ≤ p.block) ∧ Only [] w w' := by
  have HR := Lib.hid hr
  have HS := Lib.hid hs
  have HB := Lib.hid hB
  have CT := Lib.hid (fun W (o : Only [] w W) e (he : e ∈ l) => type_any (B0 := B0) (c1 := c1) (c2 := c2) (bag := bag) (c3 := c3) hok (Nat.le_trans hB o.size) ((hs e he).keep o) (hW.keep o) (hN.keep o))
  have HOK := Lib.hid (fun t : Tr => (show (t.type ⟨vars.map Vr.tr, ports.map Pr.tr, bag, of.map Vr.tr⟩).1.ok 3 = true from by
    unfold Tr.type
    split
    · exact kind_ok (hok.nm bag) t
    · exact ok_noT))
  obtain ⟨n, hn⟩ : ∃ n, l.length = n := ⟨_, rfl⟩
  have HN := Lib.hid hn
  obtain ⟨n1, hn1⟩ : ∃ n1, vars.length = n1 := ⟨_, rfl⟩
  obtain ⟨n2, hn2⟩ : ∃ n2, ports.length = n2 := ⟨_, rfl⟩
  obtain ⟨n3, hn3⟩ : ∃ n3, of.length = n3 := ⟨_, rfl⟩
  obtain ⟨nm, hnm⟩ : ∃ nm : Nm, ⟨vars.map Vr.tr, ports.map Pr.tr, bag, of.map Vr.tr⟩ = nm := ⟨_, rfl⟩
  rw [hn] at hl ⊢
  rw [hn1, hn2, hn3, hnm] at CT
  rw [hnm] at HOK
  rw [hn1, hn2, hn3, hnm]
  clear hB hok hr hs hW hN hn hn1 hn2 hn3 hnm
  have h0 := Blk.new w 40 #[.slice A1 n1 c1, .slice A2 n2 c2, .bool bag, .slice A3 n3 c3]
  have h1 := Blk.new (w.alloc (.cells #[.slice A1 n1 c1, .slice A2 n2 c2, .bool bag, .slice A3 n3 c3] 40)) 72 #[.slice none 0 0]
  simp only [World.size_alloc] at h1
  have HN0 := Lib.hid (show Blk ((w.alloc (.cells #[.slice A1 n1 c1, .slice A2 n2 c2, .bool bag, .slice A3 n3 c3] 40)).alloc (.cells #[.slice none 0 0] 72)) w.heap.size 40 #[.slice A1 n1 c1, .slice A2 n2 c2, .bool bag, .slice A3 n3 c3] from h0.alloc _)
  have HT0 := Lib.hid h1
  have HO0 := Lib.hid (show Only [] w ((w.alloc (.cells #[.slice A1 n1 c1, .slice A2 n2 c2, .bool bag, .slice A3 n3 c3] 40)).alloc (.cells #[.slice none 0 0] 72)) from ((Only.refl [] w).alloc _).alloc _)
  clear h0 h1
  go_enter Tryd.func15, Tryd.ntmps15
  go_wp2_with (fail)
  go_loopw [12] (fun i wr => ∃ (k : Nat) (A' : Option Addr) (c' : Nat) (L : List To), i = .int .i64 k ∧ k ≤ n ∧ Hid (L.length = k) ∧ Hid (wr.ownsRow (w.heap.size + 2) 74 3 (.slice A' k c') k (flatG To.cs L)) ∧ Hid (L.map To.tr = (l.take k).map (fun e => e.tr.type nm)) ∧ Hid (∀ x ∈ L, LiesT wr x.t ∧ x.t.tr.ok 3 = true ∧ ∀ b ∈ x.t.bks, (b < B0 ∨ w.heap.size + 2 ≤ b) ∧ ∀ p, A' = some p → p.block ≠ b) ∧ Hid (Blk wr w.heap.size 40 #[.slice A1 n1 c1, .slice A2 n2 c2, .bool bag, .slice A3 n3 c3]) ∧ Hid (Blk wr (w.heap.size + 1) 72 #[.slice A' k c']) ∧ Hid (Only [] w wr)) (fun i _ => n - (intOf i).toNat)
  case atStart => exact ⟨0, none, 0, [], rfl, Nat.zero_le _, Lib.hid rfl, Lib.hid (World.ownsRow_nil _ _ _ _), Lib.hid rfl, Lib.hid (by simp), HN0, HT0, HO0⟩
  case round =>
    obtain ⟨k, A', c', L, rfl, hk, HLL, HOW, HTR, HLI, HNr, HTr, HOr⟩ := hrel
    by_cases hlt : k < n
    · obtain ⟨e, he⟩ : ∃ e, l[k]? = some e := ⟨_, List.getElem?_eq_getElem (by rw [HN.out]; exact hlt)⟩
      have HTK := Lib.hid (show l.take (k + 1) = l.take k ++ [e] by rw [List.take_add_one, he]; rfl)
      have hrow := (HR.out k _ he).only HOr.out (by simp)
      obtain ⟨pe, hpe⟩ : ∃ pe, e.tr.type nm = pe := ⟨_, rfl⟩
      have HPO := Lib.hid (show pe.1.ok 3 = true from by rw [← hpe]; exact HOK.out _)
      have HPE := Lib.hid hpe
      have hcall := fun W (o : Only [] wr W) => CT.out W (HOr.out.trans o (by simp)) e (List.mem_of_getElem? he)
      rw [hpe] at hcall
      obtain ⟨xop, xn, xnm, xsb, xA, xcap, xargs⟩ := e
      obtain ⟨bb, o, rfl, hbb, x0, x1, x2, x3, x4⟩ := hrow.cells
      have HCA := Lib.hid (show ∀ W, Only [] wr W → Calls Tryd.prog 10 #[.agg #[.int .i64 xop, .int .i64 xn, .string xnm, .string xsb, .slice xA xargs.length xcap], .agg #[.slice A1 n1 c1, .slice A2 n2 c2, .bool bag, .slice A3 n3 c3]] W fun r w' => RK B0 W pe r w' from hcall)
      have ik0 : (0 : Int) ≤ (k : Int) := by omega
      have ik1 : (k : Int) < (n : Int) := by omega
      obtain ⟨p1, p2⟩ := pe
      clear he hrow hcall hpe
      obtain ⟨b0, b1, b2, b3, bl⟩ := HNr.out.facts4
      go_wp2_with (fail)
      have HOX := Lib.hid (show Only [] wr (wr.alloc (.cells #[.int .i64 xop, .int .i64 xn, .string xnm, .string xsb, .slice xA xargs.length xcap] 24)) from (Only.refl [] wr).alloc _)
      refine (HCA.out _ HOX.out).mono ?_
      rintro r w5 ⟨yk, yA, ycap, yl, rfl, hz, o5⟩
      have HO5 := Lib.hid (HOX.out.trans o5 (by simp))
      have HSZ := Lib.hid (show wr.heap.size + 1 ≤ w5.heap.size from by have := o5.size; rw [World.size_alloc] at this; exact this)
      have HZ := Lib.hid (hz.low (show wr.heap.size ≤ (wr.alloc (.cells #[.int .i64 xop, .int .i64 xn, .string xnm, .string xsb, .slice xA xargs.length xcap] 24)).heap.size from HOX.out.size))
      have HTR5 := Lib.hid (HO5.out.blk HTr.out (by simp))
      clear hz o5 x0 x1 x2 x3 x4 hbb b0 b1 b2 b3 bl HCA
      have HO6 := Lib.hid (show Only [] w5 (w5.alloc (.cells #[.int .i64 yk, .slice yA yl.length ycap] 34)) from (Only.refl [] w5).alloc _)
      have HO7 := Lib.hid (show Only [] w5 ((w5.alloc (.cells #[.int .i64 yk, .slice yA yl.length ycap] 34)).alloc (.cells #[.int .i64 yk, .slice yA yl.length ycap, .int .i64 p2] 74)) from ((Only.refl [] w5).alloc _).alloc _)
      have hb7 := Blk.new (w5.alloc (.cells #[.int .i64 yk, .slice yA yl.length ycap] 34)) 74 #[.int .i64 yk, .slice yA yl.length ycap, .int .i64 p2]
      simp only [World.size_alloc] at hb7
      have HTR7 := Lib.hid (HO7.out.blk HTR5.out (by simp))
      have HO57 := Lib.hid (HO5.out.trans HO7.out (by simp))
      have HOW7 := Lib.hid (ownsRow_only HO57.out HOW.out (fun _ _ => by simp))
      have HBS := Lib.hid (show w.heap.size + 2 ≤ wr.heap.size from by have := HTr.out.lt; omega)
      rw [← HLL.out] at HOW7
      obtain ⟨A5, c5, w8, hrun, ho8, oo8, hA8⟩ := run_appG To.cs (K := 3) (TS := 72) (TE := 74) tcs_len tcs_one Tryd.underlying72 infoT74 rfl (by omega) (by omega) (w := (w5.alloc (.cells #[.int .i64 yk, .slice yA yl.length ycap] 34)).alloc (.cells #[.int .i64 yk, .slice yA yl.length ycap, .int .i64 p2] 74)) (L := L) (M := [.mk yk yA ycap yl p2]) (m := 1) (z := w5.heap.size + 1) (oz := 0) (cz := 1) HOW7.out rfl (fun j u hj => by rw [Nat.zero_add, hb7.cell]; simpa [flatG, To.cs] using hj) (by have := HLL.out; omega) (by have := HO57.out.size; have := HBS.out; omega)
      rw [HLL.out] at hrun ho8
      have hAB : ∀ p, A' = some p → w.heap.size + 2 ≤ p.block ∧ p.block < wr.heap.size := fun p hp => by subst hp; exact HOW.out.lt p.block rfl
      have HO8 := Lib.hid (show Only (A'.toList.map (·.block)) wr w8 from (HO57.out.mono (fun _ h => by simp at h)).trans oo8 (fun x hx => .inl hx))
      have hset : ∀ b, b = w.heap.size + 1 → b ∉ A'.toList.map (·.block) := fun b hb h => by
        cases A' with
        | none => simp at h
        | some p => simp at h; have := hAB p rfl; omega
      have HTR8 := Lib.hid (HO8.out.blk HTr.out (hset _ rfl))
      have HNR8 := Lib.hid (HO8.out.blk HNr.out (fun h => by
        cases A' with
        | none => simp at h
        | some p => simp at h; have := hAB p rfl; omega))
      have HNEW := Lib.hid (show ∀ p, A5 = some p → p.block = (A'.map (·.block)).getD 0 ∨ w5.heap.size ≤ p.block from fun p hp => by
        rcases hA8 p hp with ⟨q, hq, h⟩ | h
        · left; subst hq; simp [h]
        · right; have := HO7.out.size; simp only [World.size_alloc] at h this; omega)
      have HLI8 := Lib.hid (show ∀ x ∈ L ++ [To.mk yk yA ycap yl p2], LiesT w8 x.t ∧ x.t.tr.ok 3 = true ∧ ∀ b ∈ x.t.bks, (b < B0 ∨ w.heap.size + 2 ≤ b) ∧ ∀ p, A5 = some p → p.block ≠ b from fun x hx => by
        have hz := HZ.out
        have hsz := HSZ.out
        have hbs := HBS.out
        have hB0 := HB.out
        rcases List.mem_append.1 hx with h | h
        · obtain ⟨h1, h2, h3⟩ := HLI.out x h
          have hlow := h1.lt
          refine ⟨h1.only HO8.out (fun b hb hm => ?_), h2, fun b hb => ⟨(h3 b hb).1, fun p hp => ?_⟩⟩
          · cases A' with
            | none => simp at hm
            | some q => simp at hm; exact (h3 b hb).2 q rfl hm.symm
          · rcases hA8 p hp with ⟨q, hq, h⟩ | h
            · rw [← h]; exact (h3 b hb).2 q hq
            · have := hlow b hb; have := HO7.out.size; simp only [World.size_alloc] at h this; omega
        · simp at h
          subst h
          have hof : ∀ b ∈ (Tx.mk yk yA ycap yl).bks, (b < B0 ∨ wr.heap.size ≤ b) ∧ b < w5.heap.size := fun b hb => ⟨hz.off b hb, hz.lies.lt b hb⟩
          refine ⟨((hz.lies.keep HO7.out).only oo8 (fun b hb hm => ?_)), by show (Tx.mk yk yA ycap yl).tr.ok 3 = true; rw [hz.tr]; exact HPO.out, fun b hb => ⟨(hof b hb).1.imp id (fun h => by omega), fun p hp => ?_⟩⟩
          · cases A' with
            | none => simp at hm
            | some q => simp at hm; have := hAB q rfl; have := hof b hb; have hB0 := HB.out; omega
          · rcases hA8 p hp with ⟨q, hq, h⟩ | h
            · have := hAB q hq; have := hof b hb; omega
            · have := hof b hb; have := HO7.out.size; simp only [World.size_alloc] at h this; omega)
      have HTR2 := Lib.hid (show (L ++ [To.mk yk yA ycap yl p2]).map To.tr = (l.take (k + 1)).map (fun e => e.tr.type nm) from by
        rw [HTK.out, List.map_append, List.map_append, HTR.out]
        simp only [List.map_cons, List.map_nil, To.tr, HPE.out, HZ.out.tr])
      obtain ⟨t0, tl⟩ := HTR5.out.facts1
      obtain ⟨s0, sl⟩ := HTR8.out.facts1
      have sg := HTR8.out.frozen 0
      clear hb7 hset hA8 oo8
      have HW8 := Lib.hid ho8
      clear ho8
      go_wp2_with (at_builtin; refine wpList_append_run hrun rfl _ _ rfl rfl rfl rfl ?_)
      have hbs := HTR8.out.set_ 0 (.slice A5 (k + 1) c5)
      have hB0 := HB.out
      have oset : Only [w.heap.size + 1] w8 (w8.setCell ⟨w.heap.size + 1, 0, none⟩ (.slice A5 (k + 1) c5)) := (Only.refl [w.heap.size + 1] w8).setCell (.inl (by simp)) _
      have hAB5 : ∀ p, A5 = some p → p.block ≠ w.heap.size + 1 := fun p hp => by
        subst hp
        have := (HW8.out.lt p.block rfl).1
        omega
      have HOF := Lib.hid (show Only [] w (w8.setCell ⟨w.heap.size + 1, 0, none⟩ (.slice A5 (k + 1) c5)) from (HOr.out.trans HO8.out (fun x hx => .inr (by
        cases A' with
        | none => simp at hx
        | some q => simp at hx; have := hAB q rfl; omega))).trans oset (fun x hx => .inr (by simp at hx; omega)))
      go_roundw
      case rel => exact ⟨k + 1, A5, c5, L ++ [To.mk yk yA ycap yl p2], by go_num, by omega, Lib.hid (by rw [List.length_append, HLL.out]; rfl), Lib.hid (ownsRow_only oset HW8.out (fun g hg => by
          cases A5 with
          | none => simp [Value.ownBlock] at hg
          | some p => simp [Value.ownBlock] at hg; have := hAB5 p rfl; simp; omega)), HTR2, Lib.hid (fun x hx => by
          obtain ⟨h1, h2, h3⟩ := HLI8.out x hx
          exact ⟨h1.only oset (fun b hb hm => by simp at hm; have := (h3 b hb).1; omega), h2, h3⟩), Lib.hid (oset.blk HNR8.out (by simp)), Lib.hid hbs, HOF⟩
      case measure => simp [intOf] <;> omega
    · have hke : k = n := by omega
      have iz : ¬ (n : Int) < (n : Int) := by omega
      subst hke
      clear hlt hk
      have HBL := Lib.hid (show ∀ b ∈ blks (w.heap.size + 1) A' L, (b < B0 ∨ w.heap.size ≤ b) ∧ b < wr.heap.size from fun b hb => by
        simp only [blks, List.mem_cons, List.mem_append, List.mem_flatMap] at hb
        rcases hb with rfl | hb | ⟨x, hx, hb⟩
        · exact ⟨.inr (by omega), HTr.out.lt⟩
        · cases A' with
          | none => simp at hb
          | some p => simp at hb; subst hb; have := HOW.out.lt p.block rfl; exact ⟨.inr (by omega), this.2⟩
        · obtain ⟨h1, h2, h3⟩ := HLI.out x hx
          exact ⟨(h3 b hb).1.imp id (fun h => by omega), h1.lt b hb⟩)
      have hB0 := HB.out
      have HTBX := Lib.hid (show TB wr (w.heap.size + 1) A' c' L from ⟨by rw [HLL.out]; exact HTr.out, fun i x hx => row_of_ownG To.cs tcs_len HOW.out HLL.out i x hx, fun x hx => (HLI.out x hx).1, fun x hx => (HLI.out x hx).2.1⟩)
      have HAX := Lib.hid (show ∀ p, A' = some p → w.heap.size ≤ p.block from fun p hp => by subst hp; have := (HOW.out.lt p.block rfl).1; omega)
      go_wp2_with (fail)
      go_ret
      exact ⟨_, rfl, A', c', L, HTBX.out, by rw [HTR.out, List.take_of_length_le (by rw [HN.out]; exact Nat.le_refl _)], Nat.le_succ _, HBL.out, HAX.out, HOr.out⟩
/-- the k-th one -/
def WK (ps : List (Tt × Int)) (k : Nat) (S : List Nat) (v : Array Value) (W : World) : Prop := ∃ yk yA ycap yl p2, v = #[.agg #[.int .i64 yk, .slice yA (List.length yl) ycap], .int .i64 p2] ∧ ps[k]? = some ((Tx.mk yk yA ycap yl).tr, p2) ∧ LiesT W (.mk yk yA ycap yl) ∧ ∀ b ∈ (Tx.mk yk yA ycap yl).bks, b ∉ S
set_option maxHeartbeats 8000000 in
theorem all_seqs {w : World} {cb : Nat} {A : Option Addr} {c : Nat} {L : List To} (hT : TB w cb A c L) (hlt : ∀ b ∈ blks cb A L, b < w.heap.size) (hlen : L.length ≤ 1000) :
    SeqsP Tryd.prog 23 #[.pointer (some ⟨cb, 0, none⟩)] L.length (WK (L.map To.tr)) (blks cb A L) w := by
  intro l J Jx W S hK hl hlW hS hpr hJ hY h0
  have HJ := Lib.hid hJ
  have HY := Lib.hid hY
  have H0 := Lib.hid h0
  have HS := Lib.hid hS
  have HBN := Lib.hid (show ∀ b ∈ blks cb A L, b < l ∧ b ∉ S from fun b hb => ⟨Nat.lt_of_lt_of_le (hlt b hb) hl, hpr b hb⟩)
  have HT := Lib.hid (hT.keepC hK)
  obtain ⟨N, hN⟩ : ∃ N, L.length = N := ⟨_, rfl⟩
  have HN := Lib.hid hN
  have HTB0 := Lib.hid (show Blk W cb 72 #[.slice A N c] from by rw [← hN]; exact HT.out.blk)
  rw [hN] at hY hlen ⊢
  rw [hN] at HY
  obtain ⟨b0, bl⟩ := HTB0.out.facts1
  clear hJ hY h0 hS hpr hT hlt hK hN hl
  go_enter Tryd.func23, Tryd.ntmps23
  refine (wpIn_wide (n := 9)).1 ?_
  gi_wp2_with (fail)
  clear b0 bl
  gi_loopw [7] (fun i wr => ∃ (k : Nat) (S' : List Nat), i = .int .i64 k ∧ k ≤ N ∧ Hid (J k S' wr) ∧ Hid (∀ b ∈ S', (b ∈ S ∨ W.heap.size ≤ b) ∧ b < wr.heap.size) ∧ Hid (Only (l :: S) W wr)) (fun i _ => N - (intOf i).toNat)
  case atStart => exact ⟨0, S, rfl, Nat.zero_le _, H0, Lib.hid (fun b hb => ⟨.inl hb, HS.out b hb⟩), Lib.hid (Only.refl _ _)⟩
  case round =>
    obtain ⟨k, S', rfl, hk, HJR, HSR, HOr⟩ := hrel
    by_cases hlt : k < N
    · obtain ⟨x, hx⟩ : ∃ x, L[k]? = some x := ⟨_, List.getElem?_eq_getElem (by rw [HN.out]; exact hlt)⟩
      have HTW := Lib.hid (HT.out.only HOr.out (fun b hb h => by
        have := HBN.out b hb
        rcases List.mem_cons.1 h with h | h
        · omega
        · exact this.2 h))
      have hrow := HTW.out.row k x hx
      have HLX := Lib.hid (HTW.out.lies x (List.mem_of_getElem? hx))
      have HXO := Lib.hid (HTW.out.ok x (List.mem_of_getElem? hx))
      have HXT := Lib.hid (show (L.map To.tr)[k]? = some (x.tr) from by rw [List.getElem?_map, hx]; rfl)
      obtain ⟨xk, xA, xcap, xl, xe⟩ := x
      obtain ⟨bb, o, rfl, hbb, x0, x1, x2⟩ := To.cells hrow
      have ik0 : (0 : Int) ≤ (k : Int) := by omega
      have ik1 : (k : Int) < (N : Int) := by omega
      clear hx hrow
      gi_wp2_with (fail)
      obtain ⟨w6, hw6⟩ : ∃ W : World, wr.alloc (.cells #[.int .i64 xk, .slice xA xl.length xcap, .int .i64 xe] 74) = W := ⟨_, rfl⟩
      have hb6 := Blk.new wr 74 #[.int .i64 xk, .slice xA xl.length xcap, .int .i64 xe]
      have o6 : Only [] wr (wr.alloc (.cells #[.int .i64 xk, .slice xA xl.length xcap, .int .i64 xe] 74)) := (Only.refl [] wr).alloc _
      rw [hw6] at hb6 o6 ⊢
      clear hw6 x0 x1 x2 hbb
      obtain ⟨tb, htb⟩ : ∃ tb, wr.heap.size = tb := ⟨_, rfl⟩
      have HTBS := Lib.hid htb
      rw [htb] at hb6 ⊢
      clear htb
      have HTB := Lib.hid hb6
      have HO6 := Lib.hid o6
      clear hb6 o6
      obtain ⟨xt, hxt⟩ : ∃ xt, (Tx.mk xk xA xcap xl).tr = xt := ⟨_, rfl⟩
      have HCY := Lib.hid (fun W (o : Only [] w6 W) => (show Calls Tryd.prog 19 #[.agg #[.int .i64 xk, .slice xA xl.length xcap]] W fun r w' => ∃ yk yA ycap yl, r = .returned (.agg #[.int .i64 yk, .slice yA (List.length yl) ycap]) ∧ CpK W.heap.size w' xt (.mk yk yA ycap yl) ∧ Only [] W w' from (copyT (.mk xk xA xcap xl) W ((HLX.out.keep HO6.out).keep o) 3 HXO.out).mono (by rintro r w' ⟨⟨yk, yA, ycap, yl⟩, rfl, h1, h2⟩; exact ⟨yk, yA, ycap, yl, rfl, by rw [← hxt]; exact h1, h2⟩)))
      have HXT2 := Lib.hid (show (L.map To.tr)[k]? = some (xt, xe) from by rw [← hxt]; exact HXT.out)
      clear hxt
      refine wpIn_region_relR 6 (Only []) (fr := ?frq3) (tl := ?tlq3) (fun iq v wv => match iq with
        | 0 => v = .func (.yield l) #[] #[]
        | 1 => v = .pointer (some ⟨tb, 0, none⟩)
        | 2 => v = .agg #[.int .i64 xk, .slice xA xl.length xcap]
        | 3 => ∃ yk yA ycap yl, v = .agg #[.int .i64 yk, .slice yA (List.length yl) ycap] ∧ CpK w6.heap.size wv xt (.mk yk yA ycap yl)
        | 4 => v = .pointer (some ⟨tb, 2, none⟩)
        | 5 => v = .int .i64 xe
        | _ => True) (.inl rfl) (by kernel_rfl) (by kernel_rfl) (by kernel_rfl) (by kernel_rfl) (by kernel_rfl) (by kernel_rfl) (by decide) ?htlq3 ?hfrq3 (Only.refl _ _) (fun _ _ _ h k => h.trans k (fun _ hx => .inl hx)) ?stabq3 ?stepsq3 ?doneq3
      case htlq3 => simp only [List.drop_succ_cons, List.drop_zero]; rfl
      case hfrq3 => intro vals; simp only [putAll, dstAt, Act.put, List.getElem?_toArray, List.getElem?_cons_zero, List.getElem?_cons_succ, Option.bind_some, List.setIfInBounds_toArray, List.set_cons_zero, List.set_cons_succ]; rfl
      case stabq3 =>
        intro i v wa wb h
        try dsimp only
        split <;> first | exact id | (rintro ⟨yk, yA, ycap, yl, h1, h2⟩; exact ⟨yk, yA, ycap, yl, h1, h2.keep h⟩)
      case stepsq3 =>
        refine ⟨?_, ?_, ?_, ?_, ?_, ?_, trivial⟩
        · intro vals wr hR hp K hK
          dsimp only at hK ⊢
          clear hp
          unfold RunsOp
          go_simp
          exact hK.out _ _ ⟨_, rfl, Only.refl _ _, rfl⟩
        · intro vals wr hR hp K hK
          dsimp only at hK ⊢
          clear hp
          unfold RunsOp
          go_simp
          exact hK.out _ _ ⟨_, rfl, Only.refl _ _, rfl⟩
        · intro vals wr hR hp K hK
          dsimp only at hK ⊢
          obtain ⟨p1, -⟩ := hp
          replace p1 := p1 rfl
          dsimp only at p1
          rw [p1] at hK ⊢
          clear p1
          unfold RunsOp
          obtain ⟨m0, m1, m2, ml⟩ := (hR.blk (Blk.drew HTB.out) (by simp)).facts3
          go_simp
          exact hK.out _ _ ⟨_, rfl, Only.refl _ _, rfl⟩
        · intro vals wr hR hp K hK
          dsimp only at hK ⊢
          obtain ⟨p2, -⟩ := hp
          replace p2 := p2 rfl
          dsimp only at p2
          rw [p2] at hK ⊢
          clear p2
          unfold RunsOp
          go_simp
          refine (HCY.out _ ((Only.refl [] _).drew.trans hR (by simp))).mono ?_
          rintro e' w2 ⟨yk, yA, ycap, yl, rfl, h1, o2⟩
          exact hK.out _ _ ⟨_, rfl, o2, _, _, _, _, rfl, h1.low (show w6.heap.size ≤ wr.heap.size from hR.size)⟩
        · intro vals wr hR hp K hK
          dsimp only at hK ⊢
          clear hp
          unfold RunsOp
          go_simp
          exact hK.out _ _ ⟨_, rfl, Only.refl _ _, rfl⟩
        · intro vals wr hR hp K hK
          dsimp only at hK ⊢
          obtain ⟨p4, -⟩ := hp
          replace p4 := p4 rfl
          dsimp only at p4
          rw [p4] at hK ⊢
          clear p4
          unfold RunsOp
          obtain ⟨m0, m1, m2, ml⟩ := (hR.blk (Blk.drew HTB.out) (by simp)).facts3
          go_simp
          exact hK.out _ _ ⟨_, rfl, Only.refl _ _, rfl⟩
      case doneq3 =>
        intro vals wd hR hF
        have f0 : vals 0 = .func (.yield l) #[] #[] := hF 0 (by decide)
        have f1 : vals 1 = .pointer (some ⟨tb, 0, none⟩) := hF 1 (by decide)
        have f2 : vals 2 = .agg #[.int .i64 xk, .slice xA xl.length xcap] := hF 2 (by decide)
        have f4 : vals 4 = .pointer (some ⟨tb, 2, none⟩) := hF 4 (by decide)
        have f5 : vals 5 = .int .i64 xe := hF 5 (by decide)
        rw [f0, f1, f2, f4, f5]
        clear f0 f1 f2 f4 f5
        obtain ⟨yk, yA, ycap, yl, f3, hcp⟩ := hF 3 (by decide)
        rw [f3]
        have HO7 := Lib.hid ((Only.refl [] _).drew.trans hR (by simp))
        have HO8 := Lib.hid (HO6.out.trans HO7.out (by simp))
        have HCP := Lib.hid hcp
        have HS6 := Lib.hid (show wr.heap.size ≤ w6.heap.size from HO6.out.size)
        obtain ⟨fn, tmps, assign, body, hy, hRR⟩ := HY.out k S' wd #[.agg #[.int .i64 yk, .slice yA yl.length ycap], .int .i64 xe] hlt ⟨yk, yA, ycap, yl, xe, rfl, by rw [HCP.out.tr]; exact HXT2.out, HCP.out.lies, fun b hb h => by have := HCP.out.off b hb; have := (HSR.out b h).2; have := HS6.out; omega⟩ (HJ.out _ _ _ _ HJR.out HO8.out)
        have HRR := Lib.hid hRR
        clear hRR hcp f3 hF hR
        gi_wp2_with (fail)
        refine HRR.out.mono ?_
        rintro r w4 (⟨rfl, ⟨S4, hJ4, hS4⟩, ho4⟩ | ⟨rfl, hJx⟩)
        · have HJ4 := Lib.hid hJ4
          have HS4 := Lib.hid (show ∀ b ∈ S4, (b ∈ S ∨ W.heap.size ≤ b) ∧ b < w4.heap.size from fun b hb => ⟨by
            rcases (hS4 b hb).1 with h | h
            · exact (HSR.out b h).1
            · right; have := HOr.out.size; have := HO8.out.size; omega, (hS4 b hb).2⟩)
          have HO4 := Lib.hid (show Only (l :: S) W w4 from (HOr.out.trans (HO8.out.mono (fun _ h => by simp at h)) (fun _ h => .inl h)).trans ho4 (fun b hb => by
            rcases List.mem_cons.1 hb with h | h
            · exact .inl (by simp [h])
            · exact (HSR.out b h).1.imp (fun h => List.mem_cons_of_mem _ h) id))
          clear hJ4 hS4 ho4 HRR hy
          gi_wp2_with (fail)
          go_roundw
          case rel => exact ⟨k + 1, S4, by go_num, by omega, HJ4, HS4, HO4⟩
          case measure => simp [intOf] <;> omega
        · have HX := Lib.hid hJx
          clear hJx HRR hy
          gi_wp2_with (fail)
          refine bodyPost_ret (results_none rfl _ _ _) rfl ?_
          exact ⟨⟨_, rfl⟩, .inr HX.out⟩
    · obtain rfl : k = N := by omega
      have iz : ¬ (k : Int) < (k : Int) := by omega
      gi_wp2_with (fail)
      refine bodyPost_end (results_none rfl _ _ _) rfl ?_
      exact ⟨⟨_, rfl⟩, .inl ⟨S', HJR.out⟩⟩
end Go.Proofs.YtjhpckeoackblaaDoor
namespace Go.Proofs.YtjhpckeoackblaaDoor
open Go.RowKit Go.Kx
open Go.Val (Tt)
set_option maxRecDepth 100000
attribute [local go_sem] Oper.semAt_some
theorem open_exs {H : Type} {enc : TypeId × Value → H} {W : World} {base : Nat} {v : Value} {d : DataW H} {p : List MemPlace} (hv : Value.okWide Tryd.prog W .any base 22 v) (h : DataW.Trod enc Tryd.prog W 0 (fun _ => true) true 22 v d p) :
    ∃ A cap l, v = .slice A (List.length l) cap ∧ (∀ i e, l[i]? = some e → RowAt W A i e) ∧ ∀ e ∈ l, Lies W e := by
  obtain ⟨a0, len, cap, rfl⟩ := Go.WideShapes.okWide_slice Tryd.underlying22 hv
  obtain ⟨fuel, hf⟩ := h
  obtain ⟨A, cap, l, hc, hl, hr, hs⟩ := open_rowG Ex.cs (fun W e => Lies W e) Tryd.underlying22 cells24 (by omega) (fun a => by cases a; rfl) open_ex (c := .slice a0 len cap) hf
  exact ⟨A, cap, l, hc, hr, hs⟩
/-- what the law's frame holds -/
structure FrK (w W : World) (ls : Value) (nc : Array Value) (z : Int) (b : Bool) : Prop where
  e : Blk W w.heap.size 22 #[ls]
  n : Blk W (w.heap.size + 1) 28 nc
  s : Blk W (w.heap.size + 2) 5 #[.int .u8 z]
  r : Blk W (w.heap.size + 3) 4 #[.bool b]
  o : Only [] w W
theorem FrK.keep {w W W' : World} {ls : Value} {nc : Array Value} {z : Int} {b : Bool} (h : FrK w W ls nc z b) (o : Only [] W W') : FrK w W' ls nc z b := ⟨o.blk h.e (by simp), o.blk h.n (by simp), o.blk h.s (by simp), o.blk h.r (by simp), h.o.trans o (by simp)⟩
set_option maxHeartbeats 16000000 in
theorem alls_law {A1 : Option Addr} {c1 : Nat} {vars : List Vr} {A2 : Option Addr} {c2 : Nat} {ports : List Pr} {bag : Bool} {A3 : Option Addr} {c3 : Nat} {of : List Vr} {A : Option Addr} {cap : Nat} {l : List Ex} {z : Int} {w : World} (hr : ∀ i e, l[i]? = some e → RowAt w A i e) (hs : ∀ e ∈ l, Lies w e) (hN : LiesN w A1 vars A2 ports A3 of) (hz0 : 0 ≤ z) (hz1 : z ≤ 255) (hW : WordsIs w) :
    Calls Tryd.prog 6 #[.slice A l.length cap, .agg #[.slice A1 vars.length c1, .slice A2 ports.length c2, .bool bag, .slice A3 of.length c3], .int .u8 z] w fun r w' => r = .returned (.bool true) ∧ Only [] w w' := by
  have HR := Lib.hid hr
  have HS := Lib.hid hs
  have HNM := Lib.hid hN
  have HWD := Lib.hid hW
  have HL0 := Lib.hid hN.low
  have C1 := Lib.hid (fun W (o : Only [] w W) => awake_any (hW.keep o))
  have CR9 := Lib.hid (fun W (o : Only [] w W) => (show Calls Tryd.prog 9 #[.agg #[.slice A1 vars.length c1, .slice A2 ports.length c2, .bool bag, .slice A3 of.length c3]] W (fun r w' => r = .returned (.bool (nsB vars ports of)) ∧ Only [] W w') from nsright_any (A1 := A1) (A2 := A2) (A3 := A3) (vars := vars) (ports := ports) (of := of) (c1 := c1) (c2 := c2) (bag := bag) (c3 := c3) (hN.keep o)))
  obtain ⟨n, hn⟩ : ∃ n, l.length = n := ⟨_, rfl⟩
  have HN := Lib.hid hn
  rw [hn]
  clear hr hs hN hW hn
  have h0 := Blk.new w 22 #[.slice A n cap]
  have h1 := Blk.new (w.alloc (.cells #[.slice A n cap] 22)) 28 #[.slice A1 vars.length c1, .slice A2 ports.length c2, .bool bag, .slice A3 of.length c3]
  have h2 := Blk.new ((w.alloc (.cells #[.slice A n cap] 22)).alloc (.cells #[.slice A1 vars.length c1, .slice A2 ports.length c2, .bool bag, .slice A3 of.length c3] 28)) 5 #[.int .u8 z]
  have h3 := Blk.new (((w.alloc (.cells #[.slice A n cap] 22)).alloc (.cells #[.slice A1 vars.length c1, .slice A2 ports.length c2, .bool bag, .slice A3 of.length c3] 28)).alloc (.cells #[.int .u8 z] 5)) 4 #[.bool false]
  simp only [World.size_alloc] at h1 h2 h3
  have K0 := Lib.hid (show FrK w ((((w.alloc (.cells #[.slice A n cap] 22)).alloc (.cells #[.slice A1 vars.length c1, .slice A2 ports.length c2, .bool bag, .slice A3 of.length c3] 28)).alloc (.cells #[.int .u8 z] 5)).alloc (.cells #[.bool false] 4)) (.slice A n cap) #[.slice A1 vars.length c1, .slice A2 ports.length c2, .bool bag, .slice A3 of.length c3] z false from ⟨((h0.alloc _).alloc _).alloc _, (h1.alloc _).alloc _, h2.alloc _, h3, ((((Only.refl [] w).alloc _).alloc _).alloc _).alloc _⟩)
  clear h0 h1 h2 h3
  refine calls_marks Tryd.func6 rfl ?_
  show Code.wp _ _ _ { tmps := #[.slice A n cap, .agg #[.slice A1 vars.length c1, .slice A2 ports.length c2, .bool bag, .slice A3 of.length c3], .int .u8 z] ++ _, defers := [] } w
  simp only [Tryd.ntmps6, List.size_toArray, List.length_cons, List.length_nil, Nat.reduceAdd, Nat.reduceSub, Array.replicate_succ, Array.replicate_zero, List.push_toArray, List.append_toArray, List.nil_append, List.cons_append]
  go_wp2_with (fail)
  refine (C1.out _ K0.out.o).mono ?_
  rintro r w1 ⟨rfl, o1⟩
  have K1 := Lib.hid (K0.out.keep o1)
  clear o1
  obtain ⟨e0, el⟩ := K1.out.e.facts1
  by_cases hn20 : n ≤ 20
  · have d1 : decide ((20 : Int) < (n : Int)) = false := decide_eq_false (by omega)
    obtain ⟨b0, b1, b2, b3, bl⟩ := K1.out.n.facts4
    go_wp2_with (fail)
    refine (CR9.out _ K1.out.o).mono ?_
    rintro r w2 ⟨rfl, o2⟩
    have K2 := Lib.hid (K1.out.keep o2)
    clear o2 b0 b1 b2 b3 bl e0 el d1
    obtain ⟨q, hq⟩ : ∃ q, nsB vars ports of = q := ⟨_, rfl⟩
    rw [hq]
    cases q
    · go_wp2_with (fail)
      refine (C1.out _ K2.out.o).mono ?_
      rintro r w6 ⟨rfl, o6⟩
      have K6 := Lib.hid (K2.out.keep o6)
      clear o6
      obtain ⟨r0, rl⟩ := K6.out.r.facts1
      have fr := K6.out.r.frozen 0
      go_wp2_with (fail)
      have hr2 := K6.out.r.set_ 0 (.bool true)
      obtain ⟨x0, _⟩ := Blk.facts1 (a := .bool true) hr2
      exact ⟨.bool true, by simp [results, Tryd.results6, go_sem, x0], rfl, K6.out.o.setCell (.inr (by simp; omega)) _⟩
    · have HOK := Lib.hid (nsB_ok hq).1
      clear hq
      go_wp2_with (fail)
      go_loopw [7] (fun i wr => ∃ k : Nat, i = .int .i64 k ∧ k ≤ n ∧ Hid (FrK w wr (.slice A n cap) #[.slice A1 vars.length c1, .slice A2 ports.length c2, .bool bag, .slice A3 of.length c3] z false)) (fun i _ => n - (intOf i).toNat)
      case atStart => exact ⟨0, rfl, Nat.zero_le _, K2⟩
      case round =>
        obtain ⟨k, rfl, hk, KR⟩ := hrel
        obtain ⟨e0, el⟩ := KR.out.e.facts1
        by_cases hlt : k < n
        · obtain ⟨e, he⟩ : ∃ e, l[k]? = some e := ⟨_, List.getElem?_eq_getElem (by rw [HN.out]; exact hlt)⟩
          have hrow := (HR.out k _ he).only KR.out.o (by simp)
          have hcall := fun W (o : Only [] wr W) => small_any (e := e) ((HS.out e (List.mem_of_getElem? he)).keep (KR.out.o.trans o (by simp)))
          obtain ⟨xop, xn, xnm, xsb, xA, xcap, xargs⟩ := e
          obtain ⟨bb, o, rfl, hbb, x0, x1, x2, x3, x4⟩ := hrow.cells
          have HCA := Lib.hid (show ∀ W, Only [] wr W → Calls Tryd.prog 8 #[.agg #[.int .i64 xop, .int .i64 xn, .string xnm, .string xsb, .slice xA xargs.length xcap]] W fun r w' => (∃ b : Bool, r = .returned (.bool b)) ∧ Only [] W w' from hcall)
          have ik0 : (0 : Int) ≤ (k : Int) := by omega
          have ik1 : (k : Int) < (n : Int) := by omega
          clear he hrow hcall
          go_wp2_with (fail)
          refine (HCA.out _ (Only.refl _ _)).mono ?_
          rintro r w3 ⟨⟨b, rfl⟩, o3⟩
          have KR3 := Lib.hid (KR.out.keep o3)
          clear o3 x0 x1 x2 x3 x4 hbb e0 el
          cases b
          · obtain ⟨r0, rl⟩ := KR3.out.r.facts1
            have fr := KR3.out.r.frozen 0
            go_wp2_with (fail)
            have hr2 := KR3.out.r.set_ 0 (.bool true)
            obtain ⟨x0, _⟩ := Blk.facts1 (a := .bool true) hr2
            exact ⟨.bool true, by simp [results, Tryd.results6, go_sem, x0], rfl, KR3.out.o.setCell (.inr (by simp; omega)) _⟩
          · go_wp2_with (fail)
            go_roundw
            case rel => exact ⟨k + 1, by go_num, by omega, KR3⟩
            case measure => simp [intOf] <;> omega
        · obtain rfl : n = k := by omega
          have iz : ¬ (n : Int) < (n : Int) := by omega
          clear K0 K1 K2
          go_wp2_with (fail)
          clear e0 el
          obtain ⟨wq, hwq⟩ : ∃ wq : World, wr.alloc (.cells #[.int .i64 0] 3) = wq := ⟨_, rfl⟩
          have q1 := Blk.new wr 3 #[.int .i64 0]
          have oq : Only [] wr (wr.alloc (.cells #[.int .i64 0] 3)) := (Only.refl _ _).alloc _
          rw [hwq] at q1 oq ⊢
          clear hwq
          obtain ⟨nb, hnb⟩ : ∃ nb, wr.heap.size = nb := ⟨_, rfl⟩
          have HKL := Lib.hid (show w.heap.size + 3 < nb from by have := KR.out.r.lt; omega)
          rw [hnb] at q1 ⊢
          clear hnb
          have Q1 := Lib.hid q1
          have KQ := Lib.hid (KR.out.keep oq)
          clear q1 oq KR
          have HB6 := Lib.hid KQ.out.o.size
          have CO := Lib.hid (fun W (o : Only [] wq W) => (show Calls Tryd.prog 11 #[.agg #[.slice A1 vars.length c1, .slice A2 ports.length c2, .bool bag, .slice A3 of.length c3]] W (fun r w' => ∃ A1' c1' A3' c3', r = .returned (.agg #[.slice A1' vars.length c1', .slice A2 ports.length c2, .bool bag, .slice A3' of.length c3']) ∧ LiesN w' A1' vars A2 ports A3' of ∧ (∀ p, A1' = some p → W.heap.size ≤ p.block) ∧ (∀ p, A3' = some p → W.heap.size ≤ p.block) ∧ Only [] W w') from of_any (A1 := A1) (A2 := A2) (A3 := A3) (vars := vars) (ports := ports) (of := of) (c1 := c1) (c2 := c2) (bag := bag) (c3 := c3) (by have := HOK.out.l1; omega) (by have := HOK.out.l3; omega) (HNM.out.keep (KQ.out.o.trans o (by simp)))))
          obtain ⟨nm, hnm⟩ : ∃ nm : Nm, ⟨vars.map Vr.tr, ports.map Pr.tr, bag, of.map Vr.tr⟩ = nm := ⟨_, rfl⟩
          have HNMM := Lib.hid hnm
          obtain ⟨ps, hps⟩ : ∃ ps, l.map (fun e => e.tr.type nm) = ps := ⟨_, rfl⟩
          have HPS := Lib.hid hps
          have CA := Lib.hid (fun A1' c1' A3' c3' W (o : Only [] wq W) (hl : LiesN W A1' vars A2 ports A3' of) => (show Calls Tryd.prog 15 #[.slice A n cap, .agg #[.slice A1' vars.length c1', .slice A2 ports.length c2, .bool bag, .slice A3' of.length c3']] W fun r w' => ∃ cb A' c' L, r = .returned (.func (.func 23) #[] #[.pointer (some ⟨cb, 0, none⟩)]) ∧ TB w' cb A' c' L ∧ L.map To.tr = ps ∧ W.heap.size ≤ cb ∧ (∀ b ∈ blks cb A' L, (b < w.heap.size ∨ W.heap.size ≤ b) ∧ b < w'.heap.size) ∧ (∀ p, A' = some p → W.heap.size ≤ p.block) ∧ Only [] W w' from by
            have h := all_any (B0 := w.heap.size) (A := A) (cap := cap) (l := l) (w := W) (c1 := c1') (c2 := c2) (bag := bag) (c3 := c3') (KQ.out.o.trans o (by simp)).size HOK.out (fun i e he => (HR.out i e he).only (KQ.out.o.trans o (by simp)) (by simp)) (fun e he => (HS.out e he).keep (KQ.out.o.trans o (by simp))) (by rw [HN.out]; exact hn20) (HWD.out.keep (KQ.out.o.trans o (by simp))) hl
            rw [hnm, hps, HN.out] at h
            exact h))
          have CE := Lib.hid (fun W (o : Only [] w W) e (he : e ∈ l) => (show Calls Tryd.prog 14 #[e.val, .agg #[.slice A1 vars.length c1, .slice A2 ports.length c2, .bool bag, .slice A3 of.length c3]] W fun r w' => RK w.heap.size W (e.tr.type nm) r w' from by rw [← hnm]; exact reftype_any (B0 := w.heap.size) (c1 := c1) (c2 := c2) (bag := bag) (c3 := c3) (e := e) HOK.out HL0.out o.size ((HS.out e he).keep o) (HNM.out.keep o)))
          clear hnm hps
          refine (wpIn_wide (n := 9)).1 ?_
          refine wpIn_region_relR 4 (Only []) (fr := ?frk9) (tl := ?tlk9) (fun iq v wv => match iq with
            | 0 => v = .slice A n cap
            | 1 => v = .agg #[.slice A1 vars.length c1, .slice A2 ports.length c2, .bool bag, .slice A3 of.length c3]
            | 2 => ∃ A1' c1' A3' c3', v = .agg #[.slice A1' vars.length c1', .slice A2 ports.length c2, .bool bag, .slice A3' of.length c3'] ∧ LiesN wv A1' vars A2 ports A3' of
            | 3 => ∃ cb A' c' L, v = .func (.func 23) #[] #[.pointer (some ⟨cb, 0, none⟩)] ∧ TB wv cb A' c' L ∧ L.map To.tr = ps ∧ wq.heap.size ≤ cb ∧ (∀ b ∈ blks cb A' L, (b < w.heap.size ∨ wq.heap.size ≤ b) ∧ b < wv.heap.size)
            | _ => True) (.inl rfl) (by kernel_rfl) (by kernel_rfl) (by kernel_rfl) (by kernel_rfl) (by kernel_rfl) (by kernel_rfl) (by decide) ?htlk9 ?hfrk9 (Only.refl _ _) (fun _ _ _ h k => h.trans k (fun _ hx => .inl hx)) ?stabk9 ?stepsk9 ?donek9
          case htlk9 => simp only [List.drop_succ_cons, List.drop_zero]; rfl
          case hfrk9 => intro vals; simp only [putAll, dstAt, Act.put, List.getElem?_toArray, List.getElem?_cons_zero, List.getElem?_cons_succ, Option.bind_some, List.setIfInBounds_toArray, List.set_cons_zero, List.set_cons_succ]; rfl
          case stabk9 =>
            intro i v wa wb h
            try dsimp only
            split <;> first | exact id | (rintro ⟨A1', c1', A3', c3', h1, h2⟩; exact ⟨A1', c1', A3', c3', h1, h2.keep h⟩) | (rintro ⟨cb, A', c', L, h1, h2, h3, h4, h5⟩; exact ⟨cb, A', c', L, h1, h2.keepC (B := 0) (KeepC.of_only h), h3, h4, fun b hb => ⟨(h5 b hb).1, Nat.lt_of_lt_of_le (h5 b hb).2 h.size⟩⟩)
          case stepsk9 =>
            refine ⟨?_, ?_, ?_, ?_, trivial⟩
            · intro vals wr hR hp K hK
              dsimp only at hK ⊢
              clear hp
              unfold RunsOp
              obtain ⟨k0, kl⟩ := (hR.blk (Blk.drew KQ.out.e) (by simp)).facts1
              go_simp
              exact hK.out _ _ ⟨_, rfl, Only.refl _ _, rfl⟩
            · intro vals wr hR hp K hK
              dsimp only at hK ⊢
              clear hp
              unfold RunsOp
              obtain ⟨k0, k1, k2, k3, kl⟩ := (hR.blk (Blk.drew KQ.out.n) (by simp)).facts4
              go_simp
              exact hK.out _ _ ⟨_, rfl, Only.refl _ _, rfl⟩
            · intro vals wr hR hp K hK
              dsimp only at hK ⊢
              obtain ⟨p1, -⟩ := hp
              replace p1 := p1 rfl
              dsimp only at p1
              rw [p1] at hK ⊢
              clear p1
              unfold RunsOp
              go_simp
              refine (CO.out _ ((Only.refl [] _).drew.trans hR (by simp))).mono ?_
              rintro e' w2 ⟨A1', c1', A3', c3', rfl, h1, -, -, o2⟩
              exact hK.out _ _ ⟨_, rfl, o2, A1', c1', A3', c3', rfl, h1⟩
            · intro vals wr hR hp K hK
              dsimp only at hK ⊢
              obtain ⟨p0, p2, -, -⟩ := hp
              replace p0 := p0 rfl
              replace p2 := p2 rfl
              dsimp only at p0 p2
              obtain ⟨A1', c1', A3', c3', e2, h2⟩ := p2
              rw [p0, e2] at hK ⊢
              clear p0 e2
              unfold RunsOp
              have HL2 := Lib.hid h2
              clear h2
              go_simp
              refine (CA.out _ _ _ _ _ ((Only.refl [] _).drew.trans hR (by simp)) HL2.out).mono ?_
              rintro e' w2 ⟨cb, A', c', L, rfl, h1, h3, h4, h5, -, o2⟩
              exact hK.out _ _ ⟨_, rfl, o2, cb, A', c', L, rfl, h1, h3, Nat.le_trans (show wq.heap.size ≤ wr.heap.size from hR.size) h4, fun b hb => ⟨(h5 b hb).1.imp id (fun h => Nat.le_trans (show wq.heap.size ≤ wr.heap.size from hR.size) h), (h5 b hb).2⟩⟩
          case donek9 =>
            intro vals wd hR hF
            have f0 : vals 0 = .slice A n cap := hF 0 (by decide)
            have f1 : vals 1 = .agg #[.slice A1 vars.length c1, .slice A2 ports.length c2, .bool bag, .slice A3 of.length c3] := hF 1 (by decide)
            rw [f0, f1]
            clear f0 f1
            obtain ⟨A1', c1', A3', c3', f2, -⟩ := hF 2 (by decide)
            rw [f2]
            obtain ⟨cb, A', c', L, f3, htb, hps, hcl, hbl⟩ := hF 3 (by decide)
            rw [f3]
            have oQd := (Only.refl [] wq).drew.trans hR (by simp)
            have hseq := all_seqs htb (fun b hb => (hbl b hb).2) (by have h := congrArg List.length (hps.trans HPS.out.symm); rw [List.length_map, List.length_map, HN.out] at h; omega)
            have hLk : L.length = n := by have h := congrArg List.length (hps.trans HPS.out.symm); rw [List.length_map, List.length_map, HN.out] at h; omega
            rw [hLk, hps] at hseq
            have K9 := Lib.hid (KQ.out.keep oQd)
            have Q9 := Lib.hid (oQd.blk Q1.out (by simp))
            have HPR := Lib.hid (show ∀ b ∈ blks cb A' L, b ∉ [w.heap.size + 3, nb] from fun b hb hm => by
              have h1 := Q1.out.lt
              have h2 := HKL.out
              have h3 := (hbl b hb).1
              simp at hm
              omega)
            have HSEQ := Lib.hid hseq
            clear hR hF f2 f3 htb hps hcl hbl oQd hseq hLk
            gi_wp2_with (fail)
            go_wp2_with (fail)
            have hn6 : nb < wd.heap.size := Q9.out.lt
            have hrl : w.heap.size + 3 < nb := HKL.out
            refine' wp_rangeFunc_seqsP (gf := 23) (lb := #[.pointer (some ⟨cb, 0, none⟩)]) (N := n) (R := WK ps) rfl (enters Tryd.func23 (by kernel_rfl) rfl)
              HSEQ.out (by rintro k S v W ⟨yk, yA, ycap, yl, p2, rfl, _⟩; rfl) [w.heap.size + 3, nb] (by simp <;> omega) HPR.out
              (fun k S W => Blk W nb 3 #[.int .i64 k] ∧ Blk W (w.heap.size + 3) 4 #[.bool false] ∧ S = [w.heap.size + 3, nb] ∧ Only [w.heap.size + 3, nb] wd W)
              (fun c W => c = .ret ∧ Blk W (w.heap.size + 3) 4 #[.bool true] ∧ Only [w.heap.size + 3, nb] wd W) ?hI ?hIx ?h0 ?round9 ?done99 ?stop9
            case hI =>
              rintro k S W1 W2 ⟨h1, h2, rfl, h4⟩ hk
              exact ⟨hk.blk h1, hk.blk h2, rfl, h4.keepC hk (Nat.le_refl _)⟩
            case hIx =>
              rintro c W1 W2 ⟨rfl, h2, h4⟩ hk
              exact ⟨rfl, hk.blk h2, h4.keepC hk (Nat.le_refl _)⟩
            case h0 => exact ⟨Q9.out, K9.out.r, rfl, Only.refl _ _⟩
            case done99 =>
              rintro D S W hD ⟨hn, hr, rfl, hO⟩ hKd
              obtain ⟨n0, nl⟩ := hn.facts1
              obtain ⟨r0, rl⟩ := hr.facts1
              have fr := hr.frozen 0
              obtain ⟨q0, ql⟩ := (hO.blk K9.out.e (by simp; omega)).facts1
              have HRB := Lib.hid hr
              have HD := Lib.hid hKd
              have HOO := Lib.hid (show Only [] w W from K9.out.o.trans hO (fun b hb => by simp at hb; right; omega))
              clear hn hr hO hKd
              go_wp2_with (fail)
              have hr2 := HRB.out.set_ 0 (.bool true)
              have hO2 := HOO.out.setCell (p := ⟨w.heap.size + 3, 0, none⟩) (.inr (by simp <;> omega)) (.bool true)
              have hK3 := ((only_setCell W ⟨w.heap.size + 3, 0, none⟩ (.bool true)).block D (Array.getElem?_eq_some_iff.1 HD.out).1 (by simp; omega)).trans HD.out
              refine ⟨by simp, .inl ⟨_, _, rfl, run_takeDeferred hK3, ?_⟩⟩
              have hk := KeepC.putObj (B := D) (o' := .deferred none) hK3 rfl (Nat.le_refl _)
              obtain ⟨x0, _⟩ := (hk.blk hr2).facts1
              exact ⟨.bool true, by simp [results, Tryd.results6, go_sem, x0], rfl, hO2.keepC hk (by have := K9.out.o.size; omega)⟩
            case stop9 =>
              rintro D c W hD ⟨rfl, hr, hO⟩ hKd
              have HRB := Lib.hid hr
              have HD := Lib.hid hKd
              have HOO := Lib.hid (show Only [] w W from K9.out.o.trans hO (fun b hb => by simp at hb; right; omega))
              clear hr hO hKd
              go_wp2_with (fail)
              refine ⟨by simp, .inl ⟨_, _, rfl, run_takeDeferred HD.out, ?_⟩⟩
              have hk := KeepC.putObj (B := D) (o' := .deferred none) HD.out rfl (Nat.le_refl _)
              obtain ⟨x0, _⟩ := (hk.blk HRB.out).facts1
              exact ⟨.bool true, by simp [results, Tryd.results6, go_sem, x0], rfl, HOO.out.keepC hk (by have := K9.out.o.size; omega)⟩
            case round9 =>
              intro l9 k v S V hl hlS hk hR hIV
              obtain ⟨yk, yA, ycap, yl, p2, rfl, hpk, hyL, hyS⟩ := hR
              obtain ⟨e, he⟩ : ∃ e, l[k]? = some e := ⟨_, List.getElem?_eq_getElem (by rw [HN.out]; exact hk)⟩
              have HPK := Lib.hid (show e.tr.type nm = ((Tx.mk yk yA ycap yl).tr, p2) from by
                rw [← HPS.out, List.getElem?_map, he] at hpk
                injection hpk)
              have hmem := List.mem_of_getElem? he
              have hrow := (HR.out k _ he).only K9.out.o (by simp)
              have hcall := fun W (o : Only [] w W) => CE.out W o e hmem
              obtain ⟨pe, hpe⟩ : ∃ pe, e.tr.type nm = pe := ⟨_, rfl⟩
              rw [hpe] at HPK
              rw [hpe] at hcall
              obtain ⟨xop, xn, xnm, xsb, xA, xcap, xargs⟩ := e
              obtain ⟨bb, o, rfl, hbb, x0, x1, x2, x3, x4⟩ := hrow.cells
              have HBW := Lib.hid (show bb < w.heap.size from by obtain ⟨b', o', h1, h2, -⟩ := HR.out k _ he; injection h1 with h1; injection h1 with h1 _ _; subst h1; exact h2)
              have HCL := Lib.hid (show ∀ W, Only [] w W → Calls Tryd.prog 14 #[.agg #[.int .i64 xop, .int .i64 xn, .string xnm, .string xsb, .slice xA xargs.length xcap], .agg #[.slice A1 vars.length c1, .slice A2 ports.length c2, .bool bag, .slice A3 of.length c3]] W fun r w' => RK w.heap.size W pe r w' from hcall)
              have HXC := Lib.hid (And.intro hbb (And.intro x0 (And.intro x1 (And.intro x2 (And.intro x3 x4)))))
              have HYL := Lib.hid hyL
              clear hpk he hmem hrow hcall hpe hbb x0 x1 x2 x3 x4 hyL hyS hIV
              show Code.wpIn _ _ _ _ _ { tmps := ((#[42, 43] : Array Tmp).zip #[Value.agg #[.int .i64 yk, .slice yA yl.length ycap], Value.int .i64 p2]).foldl _ _, defers := [] } V
              gi_wp2_with (fail)
              refine ⟨(Only.refl [] V).alloc _, ?_⟩
              intro X hrec hIX hkk
              obtain ⟨hn, hr, hS, hO⟩ := hIX
              subst hS
              have HNB := Lib.hid hn
              have HRB := Lib.hid hr
              have HOX := Lib.hid hO
              have HXB := Lib.hid (hkk.blk (Blk.new V 34 #[.int .i64 yk, .slice yA yl.length ycap]))
              have HYX := Lib.hid ((HYL.out.keep (show Only [] V (V.alloc (.cells #[.int .i64 yk, .slice yA yl.length ycap] 34)) from (Only.refl [] V).alloc _)).keepC hkk)
              have HEX := Lib.hid (hO.blk K9.out.e (by simp; omega))
              have HNX := Lib.hid (hO.blk K9.out.n (by simp; omega))
              have HSB := Lib.hid (hO.blk K9.out.s (by simp; omega))
              have HOW := Lib.hid (show Only [] w X from K9.out.o.trans hO (fun b hb => by simp at hb; right; omega))
              have HB6 := Lib.hid HOW.out.size
              have HCA := Lib.hid (fun W (o : Only [] X W) => HCL.out W (HOW.out.trans o (by simp)))
              have HCC := Lib.hid (show bb < X.heap.size ∧ X.cell? ⟨bb, o + k * 5, none⟩ = some (.int .i64 xop) ∧ X.cell? ⟨bb, o + k * 5 + 1, none⟩ = some (.int .i64 xn) ∧ X.cell? ⟨bb, o + k * 5 + 2, none⟩ = some (.string xnm) ∧ X.cell? ⟨bb, o + k * 5 + 3, none⟩ = some (.string xsb) ∧ X.cell? ⟨bb, o + k * 5 + 4, none⟩ = some (.slice xA xargs.length xcap) from by
                have e : ∀ j v, wd.cell? ⟨bb, j, none⟩ = some v → X.cell? ⟨bb, j, none⟩ = some v := fun j v h => (hO.cell (p := ⟨bb, j, none⟩) HXC.out.1 (by have := HBW.out; simp; omega)).trans h
                exact ⟨Nat.lt_of_lt_of_le HXC.out.1 hO.size, e _ _ HXC.out.2.1, e _ _ HXC.out.2.2.1, e _ _ HXC.out.2.2.2.1, e _ _ HXC.out.2.2.2.2.1, e _ _ HXC.out.2.2.2.2.2⟩)
              obtain ⟨pb, hpb⟩ : ∃ pb, V.heap.size = pb := ⟨_, rfl⟩
              rw [hpb] at HXB ⊢
              have hkN : (k : Int) < (n : Int) := by omega
              have hki : (0 : Int) ≤ (k : Int) := by omega
              have hge : decide ((n : Int) ≤ (k : Int)) = false := decide_eq_false (by omega)
              have hge2 : decide (n ≤ k) = false := decide_eq_false (by omega)
              obtain ⟨n0, nl⟩ := hn.facts1
              obtain ⟨e0, el⟩ := HEX.out.facts1
              clear hn hr hO hkk hrec hpb
              gi_wp2_with (fail)
              clear n0 nl e0 el hge hge2
              refine wpIn_region_relG 11 (RelF X.heap.size) (V9 X) (fun gq iq vq wv => F9 w.heap.size X pe (.bool true) (.slice (some ⟨bb, o, none⟩) n cap) (.int .i64 (k : Int)) (.pointer (some ⟨bb, o + k * 5, none⟩)) (.agg #[.int .i64 xop, .int .i64 xn, .string xnm, .string xsb, .slice xA xargs.length xcap]) (.agg #[.slice A1 vars.length c1, .slice A2 ports.length c2, .bool bag, .slice A3 of.length c3]) gq (iq + 1) vq wv) none (fr := ?fr9) (tl := ?tl9) (.inr ⟨_, rfl⟩) (by kernel_rfl) (by kernel_rfl) (by kernel_rfl) (by kernel_rfl) (by kernel_rfl) (by kernel_rfl) (by decide) ?htl9 ?hfr9 (RelF.of (Only.refl _ _)) (fun _ _ _ h k => h.trans k) (fun tb hg => by cases hg) ?steps9 ?done9
              case htl9 => simp only [List.drop_succ_cons, List.drop_zero]; rfl
              case hfr9 => intro vals; simp only [putAll, dstAt, Act.put, List.getElem?_toArray, List.getElem?_cons_zero, List.getElem?_cons_succ, Option.bind_some, List.setIfInBounds_toArray, List.set_cons_zero, List.set_cons_succ]; rfl
              case steps9 =>
                refine ⟨?_, ?_, ?_, ?_, ?_, ?_, ?_, ?_, ?_, ?_, ?_, trivial⟩
                · intro g vals wr hR hV hp K hK
                  dsimp only at hK ⊢
                  replace hR := hR.only (Nat.le_refl _)
                  clear hp
                  unfold RunsOp
                  obtain ⟨k0, kl⟩ := (hR.blk (Blk.drew HEX.out) (by simp)).facts1
                  go_simp
                  exact hK.out _ _ ⟨_, g, rfl, RelF.of (Only.refl _ _), hV, rfl, fun _ _ _ _ h => h⟩
                · intro g vals wr hR hV hp K hK
                  dsimp only at hK ⊢
                  replace hR := hR.only (Nat.le_refl _)
                  clear hp
                  unfold RunsOp
                  obtain ⟨k0, kl⟩ := (hR.blk (Blk.drew HNB.out) (by simp)).facts1
                  go_simp
                  exact hK.out _ _ ⟨_, g, rfl, RelF.of (Only.refl _ _), hV, rfl, fun _ _ _ _ h => h⟩
                · intro g vals wr hR hV hp K hK
                  dsimp only at hK ⊢
                  replace hR := hR.only (Nat.le_refl _)
                  obtain ⟨p0, p1, -⟩ := hp
                  replace p0 := p0 rfl
                  replace p1 := p1 rfl
                  replace p0 : vals 0 = .slice (some ⟨bb, o, none⟩) n cap := p0
                  replace p1 : vals 1 = .int .i64 (k : Int) := p1
                  rw [p0, p1] at hK ⊢
                  clear p0 p1
                  unfold RunsOp
                  go_simp
                  exact hK.out _ _ ⟨_, g, rfl, RelF.of (Only.refl _ _), hV, rfl, fun _ _ _ _ h => h⟩
                · intro g vals wr hR hV hp K hK
                  dsimp only at hK ⊢
                  replace hR := hR.only (Nat.le_refl _)
                  obtain ⟨p2, -⟩ := hp
                  replace p2 := p2 rfl
                  replace p2 : vals 2 = .pointer (some ⟨bb, o + k * 5, none⟩) := p2
                  rw [p2] at hK ⊢
                  clear p2
                  unfold RunsOp
                  have c0 := (hR.cell (p := ⟨bb, o + k * 5, none⟩) HCC.out.1 (by simp)).trans HCC.out.2.1
                  have c1 := (hR.cell (p := ⟨bb, o + k * 5 + 1, none⟩) HCC.out.1 (by simp)).trans HCC.out.2.2.1
                  have c2 := (hR.cell (p := ⟨bb, o + k * 5 + 2, none⟩) HCC.out.1 (by simp)).trans HCC.out.2.2.2.1
                  have c3 := (hR.cell (p := ⟨bb, o + k * 5 + 3, none⟩) HCC.out.1 (by simp)).trans HCC.out.2.2.2.2.1
                  have c4 := (hR.cell (p := ⟨bb, o + k * 5 + 4, none⟩) HCC.out.1 (by simp)).trans HCC.out.2.2.2.2.2
                  go_simp
                  exact hK.out _ _ ⟨_, g, rfl, RelF.of (Only.refl _ _), hV, rfl, fun _ _ _ _ h => h⟩
                · intro g vals wr hR hV hp K hK
                  dsimp only at hK ⊢
                  replace hR := hR.only (Nat.le_refl _)
                  clear hp
                  unfold RunsOp
                  obtain ⟨k0, k1, k2, k3, kl⟩ := (hR.blk (Blk.drew HNX.out) (by simp)).facts4
                  go_simp
                  exact hK.out _ _ ⟨_, g, rfl, RelF.of (Only.refl _ _), hV, rfl, fun _ _ _ _ h => h⟩
                · intro g vals wr hR hV hp K hK
                  dsimp only at hK ⊢
                  replace hR := hR.only (Nat.le_refl _)
                  obtain ⟨p3, p4, -⟩ := hp
                  replace p3 := p3 rfl
                  replace p4 := p4 rfl
                  replace p3 : vals 3 = .agg #[.int .i64 xop, .int .i64 xn, .string xnm, .string xsb, .slice xA xargs.length xcap] := p3
                  replace p4 : vals 4 = .agg #[.slice A1 vars.length c1, .slice A2 ports.length c2, .bool bag, .slice A3 of.length c3] := p4
                  rw [p3, p4] at hK ⊢
                  clear p3 p4
                  unfold RunsOp
                  have HV := Lib.hid hV
                  clear hV
                  go_simp
                  refine (HCA.out _ ((Only.refl [] _).drew.trans hR (by simp))).mono ?_
                  rintro e' w2 ⟨yk, yA, ycap, yl, rfl, hc, o2⟩
                  exact hK.out _ _ ⟨_, g, rfl, RelF.of o2, HV.out.keep o2, ⟨yk, yA, ycap, yl, rfl, hc.low hR.size, fun tb hg hm => by obtain ⟨h1, c0, c1, h1'⟩ := HV.out tb hg; have h2 := h1'.lt; have h3 := HB6.out; rcases hc.off tb hm with h | h <;> omega⟩, fun _ _ _ _ h => F9.keep o2 h⟩
                · intro g vals wr hR hV hp K hK
                  dsimp only at hK ⊢
                  replace hR := hR.only (Nat.le_refl _)
                  obtain ⟨p5, -⟩ := hp
                  replace p5 := p5 rfl
                  obtain ⟨yk, yA, ycap, yl, e5, hc5, hn5⟩ := p5
                  rw [e5] at hK ⊢
                  clear e5
                  unfold RunsOp
                  have HC := Lib.hid (And.intro hc5 hn5)
                  clear hc5 hn5
                  go_simp
                  exact hK.out _ _ ⟨_, g, rfl, RelF.of (Only.refl _ _), hV, ⟨yk, yA, ycap, yl, rfl, HC.out.1, HC.out.2⟩, fun _ _ _ _ h => h⟩
                · intro g vals wr hR hV hp K hK
                  dsimp only at hK ⊢
                  replace hR := hR.only (Nat.le_refl _)
                  obtain ⟨p6, -⟩ := hp
                  replace p6 := p6 rfl
                  obtain ⟨yk, yA, ycap, yl, e6, hc6, hn6⟩ := p6
                  rw [e6] at hK ⊢
                  clear e6
                  unfold RunsOp
                  have HC := Lib.hid (And.intro hc6 hn6)
                  clear hc6 hn6
                  go_simp
                  exact hK.out _ _ ⟨_, g, rfl, RelF.of (Only.refl _ _), hV, ⟨yk, yA, ycap, yl, rfl, HC.out.1, HC.out.2⟩, fun _ _ _ _ h => h⟩
                · intro g vals wr hR hV hp K hK
                  dsimp only at hK ⊢
                  replace hR := hR.only (Nat.le_refl _)
                  obtain ⟨p6, -, -⟩ := hp
                  replace p6 := p6 rfl
                  obtain ⟨yk, yA, ycap, yl, e6, hc6, hn6⟩ := p6
                  rw [e6] at hK ⊢
                  clear e6
                  unfold RunsOp
                  clear hc6 hn6
                  go_simp
                  exact hK.out _ _ ⟨_, g, rfl, RelF.of (Only.refl _ _), hV, rfl, fun _ _ _ _ h => h⟩
                · intro g vals wr hR hV hp K hK
                  dsimp only at hK ⊢
                  replace hR := hR.only (Nat.le_refl _)
                  clear hp
                  unfold RunsOp
                  have HV := Lib.hid hV
                  clear hV
                  have ho := (show Only [] wr (wr.alloc (.cells #[.int .i64 0, .slice none 0 0] 34)) from (Only.refl _ _).alloc _)
                  have hb := Blk.new wr 34 #[.int .i64 0, .slice none 0 0]
                  have HH := Lib.hid (And.intro ho (And.intro hb hR.size))
                  clear ho hb
                  go_simp
                  exact hK.out _ _ ⟨_, some wr.heap.size, rfl, RelF.of HH.out.1, fun tb hg => by injection hg with hg; subst hg; exact ⟨HH.out.2.2, _, _, HH.out.2.1⟩, ⟨_, rfl, rfl⟩, fun j u hj hn h => F9.laid (fun e => hj (by omega)) (fun e => by obtain rfl : j = 10 := (by omega); exact Bool.noConfusion ((show _ = true by kernel_rfl).symm.trans hn)) HH.out.1 h⟩
                · intro g vals wr hR hV hp K hK
                  dsimp only at hK ⊢
                  replace hR := hR.only (Nat.le_refl _)
                  obtain ⟨p9, p7, -, -, -, -, -, -, -, -, -, -, -, -⟩ := hp
                  replace p9 := p9 rfl
                  replace p7 := p7 rfl
                  obtain ⟨tb, hg, e9⟩ := p9
                  obtain ⟨yk, yA, ycap, yl, e7, hc7, hn7⟩ := p7
                  rw [e9, e7] at hK ⊢
                  clear e9 e7
                  unfold RunsOp
                  obtain ⟨hvl, c0, c1, hvb⟩ := hV tb hg
                  obtain ⟨t0, t1, tl⟩ := hvb.facts2
                  have tg0 := hvb.frozen 0
                  have tg1 := hvb.frozen 1
                  have ho : Only [tb] wr ((wr.setCell ⟨tb, 0, none⟩ (.int .i64 yk)).setCell ⟨tb, 1, none⟩ (.slice yA yl.length ycap)) := ((Only.refl [tb] wr).setCell (.inl (by simp)) _).setCell (.inl (by simp)) _
                  have hb := (hvb.set_ 0 (.int .i64 yk)).set_ 1 (.slice yA yl.length ycap)
                  have HC := Lib.hid (And.intro hc7 (hn7 tb hg))
                  have HH := Lib.hid (And.intro ho (And.intro hb (And.intro hvl hV)))
                  clear ho hb hvb hV hc7 hn7 hvl
                  go_simp
                  exact hK.out _ _ ⟨.int .i64 0, g, rfl, ⟨[tb], fun x hx => by simp at hx; subst hx; exact HH.out.2.2.1, HH.out.1⟩, fun tb' hg' => by obtain rfl : tb = tb' := (by rw [hg] at hg'; injection hg'); exact ⟨HH.out.2.2.1, _, _, HH.out.2.1⟩, ⟨tb, yk, yA, ycap, yl, hg, HH.out.2.1, ⟨HC.out.1.tr, HC.out.1.lies.only HH.out.1 (fun x hx hm => by simp at hm; subst hm; exact HC.out.2 hx), HC.out.1.off⟩, HC.out.2⟩, fun _ _ hj _ h => F9.set hg (fun e => hj (by omega)) HH.out.1 h⟩
              case done9 =>
                intro g vals wd hR hV hF
                have f0 : vals 0 = .slice (some ⟨bb, o, none⟩) n cap := hF 0 (by decide)
                have f1 : vals 1 = .int .i64 (k : Int) := hF 1 (by decide)
                have f2 : vals 2 = .pointer (some ⟨bb, o + k * 5, none⟩) := hF 2 (by decide)
                have f3 : vals 3 = .agg #[.int .i64 xop, .int .i64 xn, .string xnm, .string xsb, .slice xA xargs.length xcap] := hF 3 (by decide)
                have f4 : vals 4 = .agg #[.slice A1 vars.length c1, .slice A2 ports.length c2, .bool bag, .slice A3 of.length c3] := hF 4 (by decide)
                have f8 : vals 8 = .int .i64 pe.2 := hF 8 (by decide)
                obtain ⟨tb, hg, f9⟩ := hF 9 (by decide)
                obtain ⟨tb', zk, zA, zcap, zl, hg', hTB, hTK, hnb⟩ := hF 10 (by decide)
                obtain rfl : tb = tb' := (by rw [hg] at hg'; injection hg')
                have htbw := (hV tb hg).1
                replace hR := hR.only (Nat.le_refl _)
                rw [f0, f1, f2, f3, f4, f8, f9]
                clear f0 f1 f2 f3 f4 f8 f9
                have oXd := (Only.refl [] X).drew.trans hR (by simp)
                have HTBd := Lib.hid hTB
                have HXBd := Lib.hid (oXd.blk HXB.out (by simp))
                have HNd := Lib.hid (oXd.blk HNB.out (by simp))
                have HRd := Lib.hid (oXd.blk HRB.out (by simp))
                have HSd := Lib.hid (oXd.blk HSB.out (by simp))
                have HXd := Lib.hid oXd
                have CC := Lib.hid (refsameT (.mk yk yA ycap yl) (.mk zk zA zcap zl) _ (HYX.out.keep oXd) hTK.lies)
                rw [hTK.tr, HPK.out, show (Tx.mk yk yA ycap yl).tr.same (Tx.mk yk yA ycap yl).tr = true from (Tt.same_iff _ _).2 rfl] at CC
                rw [HPK.out]
                clear hR hV hF hg hg' hTB hTK hnb htbw oXd
                obtain ⟨u0, u1, ul⟩ := HTBd.out.facts2
                obtain ⟨v0, v1, vl⟩ := HXBd.out.facts2
                gi_wp2_with (fail)
                refine ⟨trivial, callsIn_wide.2 (CC.out.mono ?_)⟩
                rintro r w8 ⟨rfl, o8⟩
                have HN8 := Lib.hid (o8.blk HNd.out (by simp))
                have HR8 := Lib.hid (o8.blk HRd.out (by simp))
                have HS8 := Lib.hid (o8.blk HSd.out (by simp))
                have HX8 := Lib.hid (HXd.out.trans o8 (by simp))
                have HO8 := Lib.hid (HOX.out.trans HX8.out (by simp))
                clear u0 u1 ul v0 v1 vl o8
                obtain ⟨n0, nl⟩ := HN8.out.facts1
                have nfr := HN8.out.frozen 0
                obtain ⟨s0, sl⟩ := HS8.out.facts1
                obtain ⟨r0, rl⟩ := HR8.out.facts1
                have rfr := HR8.out.frozen 0
                have hne1 : ¬ nb = w.heap.size + 2 := by omega
                have hne2 : ¬ nb = w.heap.size + 3 := by omega
                have hne3 : ¬ w.heap.size + 2 = nb := by omega
                have hne4 : ¬ w.heap.size + 3 = nb := by omega
                have hkb : (k : Int) ≤ 20 := by omega
                by_cases hbr : z ≤ (k : Int) + 1
                · have hd : decide (z ≤ (k : Int) + 1) = true := by simpa using hbr
                  gi_wp2_with (fail)
                  have hr2 := (Blk.far HR8.out (p := ⟨nb, 0, none⟩) (by simpa using hne4) (.int .i64 ((k : Int) + 1))).set_ 0 (.bool true)
                  have o1 : Only [w.heap.size + 3, nb] w8 ((w8.setCell ⟨nb, 0, none⟩ (.int .i64 ((k : Int) + 1))).setCell ⟨w.heap.size + 3, 0, none⟩ (.bool true)) := ((Only.refl _ w8).setCell (.inl (by simp)) _).setCell (.inl (by simp)) _
                  exact ⟨⟨rfl, by simpa using hr2, HO8.out.trans o1 (fun b hb => .inl hb)⟩, (HX8.out.mono (fun _ h => by simp at h)).trans o1 (fun b hb => .inl hb)⟩
                · have hd : decide (z ≤ (k : Int) + 1) = false := by simpa using hbr
                  gi_wp2_with (fail)
                  have hn2 := HN8.out.set_ 0 (.int .i64 ((k : Int) + 1))
                  have hr2 := Blk.far HR8.out (p := ⟨nb, 0, none⟩) (by simpa using hne4) (.int .i64 ((k : Int) + 1))
                  have o1 : Only [w.heap.size + 3, nb] w8 (w8.setCell ⟨nb, 0, none⟩ (.int .i64 ((k : Int) + 1))) := (Only.refl _ w8).setCell (.inl (by simp)) _
                  exact ⟨⟨[w.heap.size + 3, nb], ⟨by simpa using hn2, by simpa using hr2, rfl, HO8.out.trans o1 (fun b hb => .inl hb)⟩, fun b hb => ⟨.inl hb, by simp at hb; have := hn2.lt; have := hr2.lt; rcases hb with rfl | rfl <;> assumption⟩⟩, (HX8.out.mono (fun _ h => by simp at h)).trans o1 (fun b hb => .inl hb)⟩
  · have d1 : decide ((20 : Int) < (n : Int)) = true := decide_eq_true (by omega)
    go_wp2_with (fail)
    refine (C1.out _ K1.out.o).mono ?_
    rintro r w6 ⟨rfl, o6⟩
    have K6 := Lib.hid (K1.out.keep o6)
    clear o6
    obtain ⟨r0, rl⟩ := K6.out.r.facts1
    have fr := K6.out.r.frozen 0
    go_wp2_with (fail)
    have hr2 := K6.out.r.set_ 0 (.bool true)
    obtain ⟨x0, _⟩ := Blk.facts1 (a := .bool true) hr2
    exact ⟨.bool true, by simp [results, Tryd.results6, go_sem, x0], rfl, K6.out.o.setCell (.inr (by simp; omega)) _⟩
end Go.Proofs.YtjhpckeoackblaaDoor
