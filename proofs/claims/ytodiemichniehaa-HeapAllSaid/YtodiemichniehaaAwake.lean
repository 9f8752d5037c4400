/- awake. -/
import Derived.Test.YtodiemichniehaaRefSet
namespace Go.Proofs.Ytodiemichniehaa
open Go.RowKit Go.Kx Go.Maps
set_option maxRecDepth 20000

theorem HB.fresh {B B0 : Nat} {w : World} {g bm : Nat} {L : List Ent} {A : Option Addr} {c : Nat} (hH : HB B w g (some bm) L A c) (h1 : B0 ≤ B) (h2 : B0 ≤ bm) : ∀ x ∈ heapS g A (some bm), x ∈ ([] : List Nat) ∨ B0 ≤ x := fun x hx => by
  simp at hx
  have hb := hH.base
  rcases hx with h | ⟨p, hp, h⟩ | h
  · exact .inr (by omega)
  · have := (hH.own.lt p.block (by rw [hp]; rfl)).1
    exact .inr (by omega)
  · exact .inr (by omega)
set_option maxHeartbeats 1000000 in
theorem awake_any (w : World) : Calls Try.prog 8 #[] w fun e w' => e = .returned (.bool true) ∧ Only [] w w' := by
  go_enter Try.func8, Try.ntmps8
  go_wp2_with (fail)
  refine (new_some w).mono ?_
  rintro e w1 ⟨rfl, h1, o1⟩
  have hs := o1.size
  have hz : w.heap.size + 1 < w1.heap.size := h1.blk.lt
  have hb1 : w.heap.size + 1 ≤ w1.heap.size := by omega
  have t1 := set_any h1 HS.nil (k := 1) (x := 3) ⟨by decide, by decide⟩ ⟨by decide, by decide⟩ (by decide) hb1
  have HO := Lib.hid o1
  have f1 := h1.fresh (B0 := w.heap.size) (by omega) (by omega)
  clear h1 o1
  go_wp2_with (fail)
  refine t1.mono ?_
  rintro e w2 ⟨rfl, L2, A2, c2, h2, s2, o2, -⟩
  replace s2 : HS L2 [(1, 3)] := s2
  have O2 := HO.out.trans o2 f1
  have l2 : L2.length = 1 := s2.length
  have t2 := set_any h2 s2 (k := 2) (x := 1) ⟨by decide, by decide⟩ ⟨by decide, by decide⟩ (by omega) (Nat.le_trans hb1 o2.size)
  have f2 := h2.fresh (B0 := w.heap.size) (by omega) (by omega)
  have hb2 : w.heap.size + 1 ≤ w2.heap.size := Nat.le_trans hb1 o2.size
  have HO2 := Lib.hid O2
  clear t1 h2 o2 O2 HO f1
  go_wp2_with (fail)
  refine t2.mono ?_
  rintro e w3 ⟨rfl, L3, A3, c3, h3, s3, o3, -⟩
  replace s3 : HS L3 [(2, 1), (1, 3)] := s3
  have l3 : L3.length = 2 := s3.length
  have O3 := HO2.out.trans o3 f2
  have t3 := set_any h3 s3 (k := 1) (x := 0) ⟨by decide, by decide⟩ ⟨by decide, by decide⟩ (by omega) (Nat.le_trans hb2 o3.size)
  have f3 := h3.fresh (B0 := w.heap.size) (by omega) (by omega)
  have HO3 := Lib.hid O3
  clear t2 h3 o3 O3 HO2 f2
  go_wp2_with (fail)
  refine t3.mono ?_
  rintro e w4 ⟨rfl, L4, A4, c4, h4, s4, o4, -⟩
  replace s4 : HS L4 [(1, 0), (2, 1)] := s4
  have l4 : L4.length = 2 := s4.length
  have O4 := HO3.out.trans o4 f3
  have t4 := pop_any h4 s4 (by omega)
  have f4 := h4.fresh (B0 := w.heap.size) (by omega) (by omega)
  have HO4 := Lib.hid O4
  clear t3 h4 o4 O4 HO3 f3
  go_wp2_with (fail)
  refine t4.mono ?_
  rintro e w5 ⟨rfl, L5, h5, s5, o5⟩
  replace s5 : HS L5 [(2, 1)] := s5
  have l5 : L5.length = 1 := s5.length
  have O5 := HO4.out.trans o5 f4
  have hX := Blk.new w5 40 #[.int .i64 1, .int .i64 0]
  have o6 : Only [] w5 (w5.alloc (.cells #[.int .i64 1, .int .i64 0] 40)) := (Only.refl [] w5).alloc _
  have h6 := h5.keep o6
  have t5 := pop_any h6 s5 (by omega)
  have hn5 : ∀ x ∈ heapS (w.heap.size + 1) A4 (some w.heap.size), x < w5.heap.size := fun x hx => by
    have g1 := h5.blk.lt
    simp at hx
    rcases hx with h | ⟨p, hp, h⟩ | h
    · omega
    · have := (h5.own.lt p.block (by rw [hp]; rfl)).2
      omega
    · omega
  have f5 := h6.fresh (B0 := w.heap.size) (by omega) (by omega)
  have HO5 := Lib.hid (O5.trans o6 (by simp))
  clear t4 h5 o5 O5 HO4 f4 h6 o6
  go_wp2_with (fail)
  refine t5.mono ?_
  rintro e w6 ⟨rfl, L6, h6, s6, o6⟩
  replace s6 : HS L6 [] := s6
  have l6 : L6.length = 0 := s6.length
  have hX6 := o6.blk hX (fun hm => by have := hn5 _ hm; omega)
  have O6 := HO5.out.trans o6 f5
  obtain ⟨x0, x1, xl⟩ := hX6.facts2
  have o7 : Only [] w6 (w6.alloc (.cells #[.int .i64 2, .int .i64 1] 40)) := (Only.refl [] w6).alloc _
  have t6 := len_any (h6.keep o7)
  rw [l6] at t6
  have HO6 := Lib.hid (O6.trans o7 (by simp))
  clear t5 h6 o6 O6 HO5 f5 hX6 hX hn5 o7 hs hz hb1 hb2 l2 l3 l4 l5
  go_wp2_with (fail)
  refine t6.mono ?_
  clear t6
  rintro e w7 ⟨rfl, o7⟩
  go_wp2_with (fail)
  go_ret
  exact ⟨rfl, HO6.out.trans o7 (by simp)⟩
end Go.Proofs.Ytodiemichniehaa
