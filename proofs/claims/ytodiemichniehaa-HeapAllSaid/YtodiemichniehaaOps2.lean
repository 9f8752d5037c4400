/- Get, Min, Del, Pop against the document's list. -/
import Derived.Test.YtodiemichniehaaOps
namespace Go.Proofs.Ytodiemichniehaa
open Go.RowKit Go.Kx Go.Maps
set_option maxRecDepth 20000

def hd (m : List Ent) : Ent := m.headD (0, 0)
def some? (m : List Ent) : Bool := !m.isEmpty
theorem get_any {B : Nat} {w : World} {g bm : Nat} {L m : List Ent} {A : Option Addr} {c : Nat} (hH : HB B w g (some bm) L A c) (hS : HS L m) {k : Int} (hk : I64 k) :
    Calls Try.prog 15 #[.pointer (some ⟨g, 0, none⟩), .int .i64 k] w fun e w' => e = .returned (.tuple #[.int .i64 ((getM m k).getD 0), .bool (hasM m k)]) ∧ Only [] w w' := by
  rw [← getM_perm hH.nd hS.perm, ← hasM_perm hS.perm]
  cases h : hasM L k with
  | false => rw [getM_none h]; exact get_none hH hk h
  | true =>
    obtain ⟨i, b, hi⟩ := hasM_true h
    rw [getM_at hH.nd hi]
    exact get_some hH hi
theorem min_any {B : Nat} {w : World} {g : Nat} {M : Option Nat} {L m : List Ent} {A : Option Addr} {c : Nat} (hH : HB B w g M L A c) (hS : HS L m) :
    Calls Try.prog 19 #[.pointer (some ⟨g, 0, none⟩)] w fun e w' => e = .returned (.tuple #[.agg #[.int .i64 (hd m).1, .int .i64 (hd m).2], .bool (some? m)]) ∧ Only [] w w' := by
  cases m with
  | nil =>
    have hL : L = [] := hS.perm.eq_nil
    subst hL
    exact min_none hH
  | cons x r => exact min_some hH hS.min
theorem HB.someA {B : Nat} {w : World} {g : Nat} {M : Option Nat} {L : List Ent} {A : Option Addr} {c : Nat} (hH : HB B w g M L A c) {i : Nat} (hi : i < L.length) : ∃ p, A = some ⟨p, 0, none⟩ := by
  obtain ⟨p, h, _⟩ := own_cell rfl hH.own (List.getElem?_eq_getElem hi)
  exact ⟨p, h⟩
theorem del_any {B : Nat} {w : World} {g bm : Nat} {L m : List Ent} {A : Option Addr} {c : Nat} (hH : HB B w g (some bm) L A c) (hS : HS L m) {k : Int} (hk : I64 k) (hl : L.length ≤ 1048576) :
    Calls Try.prog 14 #[.pointer (some ⟨g, 0, none⟩), .int .i64 k] w fun e w' => e = .returned (.bool (hasM m k)) ∧ ∃ L', HB B w' g (some bm) L' A c ∧ HS L' (delM m k) ∧ Only (heapS g A (some bm)) w w' := by
  rw [← hasM_perm hS.perm]
  obtain ⟨g0, g1, g2, gl⟩ := hH.blk.facts3
  obtain ⟨D, hD, hAt⟩ := hH.map bm rfl
  cases h : hasM L k with
  | false =>
    have hhas : Maps.has D (ik k) = false := by rw [hAt.has_]; exact h
    clear hAt
    have HH := Lib.hid hH
    have hno : delM m k = m := delM_none ((hasM_perm hS.perm k).symm.trans h)
    clear hH
    go_enter Try.func14, Try.ntmps14
    go_wp2_with (at_lookup; refine wpList_lookup_own_ok_int _ rfl _ _ 61 rfl 3 3 .i64 law3 Try.underlying61 Try.underlying3 (zero3 _) bm L.length D rfl hD _ _ rfl (key_of hk) ?_; intro c hat hwc; rw [hhas]; clear hwc hat)
    go_ret
    exact ⟨rfl, L, HH.out, by rw [hno]; exact hS, Only.refl _ _⟩
  | true =>
    obtain ⟨i, b, hi⟩ := hasM_true h
    have hil : i < L.length := (List.getElem?_eq_some_iff.1 hi).1
    have hhas : Maps.has D (ik k) = true := by rw [hAt.has_]; exact h
    have hat0 : ∀ z, D.atKey (ik k) z = iv i := hAt.at_ i _ hi
    clear hAt
    obtain ⟨p, rfl⟩ := hH.someA hil
    have hrm := remove_any hH hS.heap hil hl
    have HH := Lib.hid hH
    clear hH
    go_enter Try.func14, Try.ntmps14
    go_wp2_with (at_lookup; refine wpList_lookup_own_ok_int _ rfl _ _ 61 rfl 3 3 .i64 law3 Try.underlying61 Try.underlying3 (zero3 _) bm L.length D rfl hD _ _ rfl (key_of hk) ?_; intro c hat hwc; rw [hat0] at hat; (injection hat with hat); (injection hat with _ hat); subst hat; rw [hhas]; clear hwc)
    refine hrm.mono ?_
    clear hrm g0 g1 g2 gl hD
    rintro e w1 ⟨rfl, L', h', hp, hh, o⟩
    have HH' := Lib.hid h'
    have HO := Lib.hid o
    clear h' o
    go_wp2_with (fail)
    go_ret
    exact ⟨rfl, L', HH'.out, hS.del hi hp hh, HO.out⟩
theorem pop_any {B : Nat} {w : World} {g : Nat} {M : Option Nat} {L m : List Ent} {A : Option Addr} {c : Nat} (hH : HB B w g M L A c) (hS : HS L m) (hl : L.length ≤ 1048576) :
    Calls Try.prog 17 #[.pointer (some ⟨g, 0, none⟩)] w fun e w' => e = .returned (.tuple #[.agg #[.int .i64 (hd m).1, .int .i64 (hd m).2], .bool (some? m)]) ∧ ∃ L', HB B w' g M L' A c ∧ HS L' m.tail ∧ Only (heapS g A M) w w' := by
  have hg := hH.blk.lt
  have hbn := Blk.new w 40 #[.int .i64 0, .int .i64 0]
  have o0 : Only [] w (w.alloc (.cells #[.int .i64 0, .int .i64 0] 40)) := (Only.refl [] w).alloc _
  have hmn := min_any (hH.keep o0) hS
  unfold hd some? at hmn
  go_enter Try.func17, Try.ntmps17
  go_wp2_with (fail)
  refine hmn.mono ?_
  clear hmn
  rintro e w1 ⟨rfl, o1⟩
  have HB1 := Lib.hid (o1.blk hbn (by simp))
  have hz : w.heap.size < w1.heap.size := (o1.blk hbn (by simp)).lt
  have O1 := o0.trans o1 (by simp)
  have h1 := hH.keep O1
  obtain ⟨b0, b1, bl⟩ := HB1.out.facts2
  have fz0 := HB1.out.frozen 0
  have fz1 := HB1.out.frozen 1
  cases m with
  | nil =>
    have hL : L = [] := hS.perm.eq_nil
    subst hL
    have HH := Lib.hid h1
    have HO := Lib.hid O1
    have HH0 := Lib.hid hH
    clear h1 O1 o0 o1 hbn hH
    go_wp2_with (fail)
    have hb2 := ((HB1.out.set_ 0 (.int .i64 0)).set_ 1 (.int .i64 0)).alloc (.cells #[.int .i64 0, .int .i64 0] 40)
    obtain ⟨e0, e1, el⟩ := Blk.facts2 (a := .int .i64 0) (b := .int .i64 0) hb2
    have oN := ((HO.out.setCell (p := ⟨w.heap.size, 0, none⟩) (.inr (by simp)) (.int .i64 0)).setCell (p := ⟨w.heap.size, 1, none⟩) (.inr (by simp)) (.int .i64 0)).alloc (.cells #[.int .i64 0, .int .i64 0] 40)
    refine bodyPost_ret (v := .tuple #[.agg #[.int .i64 0, .int .i64 0], .bool false]) (by simp [results, Try.results17, go_sem, e0, e1]) rfl ⟨rfl, [], ?_, hS, oN.mono (fun _ h => by simp at h)⟩
    exact HH0.out.keep oN
  | cons x r =>
    have h0 := hS.min
    have hil : 0 < L.length := (List.getElem?_eq_some_iff.1 h0).1
    obtain ⟨p, rfl⟩ := hH.someA hil
    have hpl : p < w.heap.size := (hH.own.lt p rfl).2
    have hml : ∀ bm, M = some bm → bm < w.heap.size := fun bm e => (hH.map bm e).lt
    have o2 : Only [] w1 (w1.alloc (.cells #[.int .i64 x.1, .int .i64 x.2] 40)) := (Only.refl [] w1).alloc _
    have hrm := remove_any (h1.keep o2) hS.heap hil hl
    have HH := Lib.hid h1
    have HO := Lib.hid (O1.trans o2 (by simp))
    have HB2 := Lib.hid (HB1.out.alloc (.cells #[.int .i64 x.1, .int .i64 x.2] 40))
    have HB3 := Lib.hid (Blk.new w1 40 #[.int .i64 x.1, .int .i64 x.2])
    clear h1 O1 o0 o1 o2 hbn hH
    go_wp2_with (fail)
    refine hrm.mono ?_
    clear hrm
    rintro e w2 ⟨rfl, L', h', hp, hh, o⟩
    have hn1 : ∀ b, w.heap.size ≤ b → b ∉ g :: p :: M.toList := fun b hb k => by
      simp at k
      rcases k with k | k | k
      · omega
      · omega
      · have := hml b k
        omega
    have hb2 := o.blk HB2.out (hn1 _ (Nat.le_refl _))
    have hb3 := o.blk HB3.out (hn1 _ (by omega))
    have HO2 := Lib.hid ((HO.out.mono (S' := heapS g (some ⟨p, 0, none⟩) M) (fun _ h => by simp at h)).trans o (fun y h => .inl (by simpa using h)))
    have HH' := Lib.hid h'
    have HX := Lib.hid hb2
    clear h' o b0 b1 bl fz0 fz1
    obtain ⟨b0, b1, bl⟩ := hb2.facts2
    obtain ⟨c0, c1, cl⟩ := hb3.facts2
    have fz0 := hb2.frozen 0
    have fz1 := hb2.frozen 1
    clear hb2 hb3
    go_wp2_with (fail)
    have hb2 := (HX.out.set_ 0 (.int .i64 x.1)).set_ 1 (.int .i64 x.2)
    obtain ⟨e0, e1, el⟩ := Blk.facts2 (a := .int .i64 x.1) (b := .int .i64 x.2) hb2
    have oW := ((Only.refl [w.heap.size] w2).setCell (p := ⟨w.heap.size, 0, none⟩) (.inl (by simp)) (.int .i64 x.1)).setCell (p := ⟨w.heap.size, 1, none⟩) (.inl (by simp)) (.int .i64 x.2)
    refine bodyPost_ret (v := .tuple #[.agg #[.int .i64 x.1, .int .i64 x.2], .bool true]) (by simp [results, Try.results17, go_sem, e0, e1]) rfl ⟨rfl, L', HH'.out.only oW (fun y hy => ?_), hS.pop hp hh, HO2.out.trans oW (fun y hy => .inr (by simp at hy; omega))⟩
    have := hn1 w.heap.size (Nat.le_refl _)
    simp at hy this ⊢
    rcases hy with h | h | h
    · omega
    · omega
    · exact fun e => this.2.2 (by rw [← e]; exact h)
end Go.Proofs.Ytodiemichniehaa
