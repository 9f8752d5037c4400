/- The document's example. -/
import Derived.Test.YtpedlapemgjgaaaWhere
namespace Go.Proofs.Ytpedlapemgjgaaa
open Go.RowKit Go.Kx Go.Bag
set_option maxRecDepth 100000
theorem blk_row2 {W : World} {z : Nat} {t : TypeId} {M : List Ent} (h : Blk W z t (flat2 M).toArray) : RowC W (some ⟨z, 0, none⟩) (flat2 M) := fun j u hu =>
  ⟨z, 0, rfl, h.lt, by rw [Nat.zero_add, h.cell]; simpa using hu⟩
theorem blk_row1 {W : World} {z : Nat} {t : TypeId} {M : List Int} (h : Blk W z t (flat1 M).toArray) : RowC W (some ⟨z, 0, none⟩) (flat1 M) := fun j u hu =>
  ⟨z, 0, rfl, h.lt, by rw [Nat.zero_add, h.cell]; simpa using hu⟩
def exL : List Ent := [(1, 0), (1, 5), (2, 0), (3, 0)]
theorem ex1 : st keyJ [(3, 0), (1, 0)] = [(1, 0), (3, 0)] := by decide
theorem ex2 : st keyJ ([(1, 0), (3, 0)] ++ [(2, 0), (1, 5)]) = exL := by decide
set_option maxHeartbeats 4000000 in
theorem awake_any (w : World) : Calls Try.prog 9 #[] w fun e w' => e = .returned (.bool true) ∧ Only [] w w' := by
  have o1 : Only [] w (w.alloc (.cells #[.int .i64 3, .int .i64 0, .int .i64 1, .int .i64 0] 49)) := (Only.refl _ _).alloc _
  have b1 : Blk (w.alloc (.cells #[.int .i64 3, .int .i64 0, .int .i64 1, .int .i64 0] 49)) w.heap.size 49 (flat2 [(3, 0), (1, 0)]).toArray := Blk.new w 49 _
  have C1 := newJ (cl := 2) (blk_row2 b1) (nl := 2) rfl (by omega)
  rw [ex1, World.size_alloc] at C1
  have HC1 := Lib.hid C1
  have HO1 := Lib.hid o1
  clear o1 b1 C1
  go_enter Try.func9, Try.ntmps9
  go_wp2_with (fail)
  refine HC1.out.mono ?_
  rintro e w2 ⟨rfl, ⟨A, c, hb⟩, o2⟩
  have hO2 := HO1.out.trans o2 (by simp)
  have o3 : Only [] w2 (w2.alloc (.cells #[.int .i64 2, .int .i64 0, .int .i64 1, .int .i64 5] 49)) := (Only.refl _ _).alloc _
  have b3 : Blk (w2.alloc (.cells #[.int .i64 2, .int .i64 0, .int .i64 1, .int .i64 5] 49)) w2.heap.size 49 (flat2 [(2, 0), (1, 5)]).toArray := Blk.new w2 49 _
  have hz := (hO2.trans o3 (by simp)).size
  have hl1 := hb.blk.lt
  obtain ⟨g, hg⟩ : ∃ g, w.heap.size + 1 = g := ⟨_, rfl⟩
  rw [hg] at hb hl1 ⊢
  have C2 := putJ (cl := 2) ((hb.base (B' := w.heap.size) (by omega)).keep o3) (blk_row2 b3) (nl := 2) rfl (by simp) hz
  rw [ex2] at C2
  have HC2 := Lib.hid C2
  have HO3 := Lib.hid (hO2.trans o3 (by simp))
  have hgw : w.heap.size ≤ g := by omega
  clear hb o2 hO2 o3 b3 C2 HC1 hg hl1
  go_wp2_with (fail)
  refine HC2.out.mono ?_
  rintro e w4 ⟨rfl, ⟨A4, c4, hb4⟩, o4⟩
  have HO4 := Lib.hid (HO3.out.trans o4 (fun x hx => .inr (by simp at hx; omega)))
  have HB4 := Lib.hid hb4
  clear hb4 o4 HC2
  go_wp2_with (fail)
  refine (list_any HB4.out (by decide)).mono ?_
  rintro e w5 ⟨A5, c5, rfl, how5, o5⟩
  have hr5 := own_rowC (by rw [len_flat2]) how5
  have o6 : Only [] w5 (w5.alloc (.cells #[.int .i64 1, .int .i64 0, .int .i64 1, .int .i64 5, .int .i64 2, .int .i64 0, .int .i64 3, .int .i64 0] 49)) := (Only.refl _ _).alloc _
  have b6 : Blk (w5.alloc (.cells #[.int .i64 1, .int .i64 0, .int .i64 1, .int .i64 5, .int .i64 2, .int .i64 0, .int .i64 3, .int .i64 0] 49)) w5.heap.size 49 (flat2 exL).toArray := Blk.new w5 49 _
  have C6 := refsame_any (l := exL) (m := exL) (c := c5) (c' := 4) (hr5.only o6) (blk_row2 b6) (by decide)
  rw [decide_eq_true rfl] at C6
  have HC6 := Lib.hid (show Calls Try.prog 31 #[.slice A5 4 c5, .slice (some ⟨w5.heap.size, 0, none⟩) 4 4] _ _ from C6)
  have HO6 := Lib.hid ((HO4.out.trans o5 (by simp)).trans o6 (by simp))
  have HB6 := Lib.hid ((HB4.out.keep o5).keep o6)
  clear how5 hr5 o5 o6 b6 C6 HB4 HO4
  have e4 : exL.length = 4 := rfl
  rw [e4]
  clear e4
  go_wp2_with (fail)
  refine HC6.out.mono ?_
  rintro e w7 ⟨rfl, o7⟩
  have C8 := lenJ (HB6.out.keep o7)
  have HC8 := Lib.hid (show Calls Try.prog 34 #[.pointer (some ⟨g, 0, none⟩)] w7 fun e w' => e = .returned (.int .i64 4) ∧ w7 = w' from C8)
  have HO7 := Lib.hid (HO6.out.trans o7 (by simp))
  clear o7 C8 HC6
  go_wp2_with (fail)
  refine HC8.out.mono ?_
  rintro e w8 ⟨rfl, rfl⟩
  go_wp2_with (fail)
  go_ret
  exact ⟨rfl, HO7.out⟩
/-- bytes that are read -/
def flatU (L : List Int) : List Value := L.map (Value.int .u8)
theorem flatU_at {L : List Int} {i : Nat} {e : Int} (h : L[i]? = some e) : (flatU L)[i]? = some (.int .u8 e) := by simp [flatU, h]
theorem rowU {w : World} {A : Option Addr} {M : List Int} (h : RowC w A (flatU M)) {i : Nat} {e : Int} (hi : M[i]? = some e) : ∃ b o, A = some ⟨b, o, none⟩ ∧ b < w.heap.size ∧ w.cell? ⟨b, o + i, none⟩ = some (.int .u8 e) := by
  obtain ⟨b, o, hA, hb, c0⟩ := h _ _ (flatU_at hi)
  exact ⟨b, o, hA, hb, c0⟩
end Go.Proofs.Ytpedlapemgjgaaa
