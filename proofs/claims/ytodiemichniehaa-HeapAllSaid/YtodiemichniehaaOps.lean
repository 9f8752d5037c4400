/- New, Len, Min, Get, Del, Pop. -/
import Derived.Test.YtodiemichniehaaRemove
namespace Go.Proofs.Ytodiemichniehaa
open Go.RowKit Go.Kx Go.Maps
set_option maxRecDepth 20000

theorem len_any {B : Nat} {w : World} {g : Nat} {M : Option Nat} {L : List Ent} {A : Option Addr} {c : Nat} (hH : HB B w g M L A c) :
    Calls Try.prog 20 #[.pointer (some ⟨g, 0, none⟩)] w fun e w' => e = .returned (.int .i64 (L.length : Int)) ∧ Only [] w w' := by
  obtain ⟨g0, g1, g2, gl⟩ := hH.blk.facts3
  clear hH
  go_enter Try.func20, Try.ntmps20
  go_wp2_with (fail)
  go_ret
  exact ⟨rfl, Only.refl _ _⟩
theorem len_nil (w : World) : Calls Try.prog 20 #[.pointer none] w fun e w' => e = .returned (.int .i64 0) ∧ Only [] w w' := by
  go_enter Try.func20, Try.ntmps20
  go_wp2_with (fail)
  go_ret
  exact ⟨rfl, Only.refl _ _⟩
theorem min_none {B : Nat} {w : World} {g : Nat} {M : Option Nat} {A : Option Addr} {c : Nat} (hH : HB B w g M [] A c) :
    Calls Try.prog 19 #[.pointer (some ⟨g, 0, none⟩)] w fun e w' => e = .returned (.tuple #[.agg #[.int .i64 0, .int .i64 0], .bool false]) ∧ Only [] w w' := by
  go_enter Try.func19, Try.ntmps19
  go_wp2_with (fail)
  have hbn := Blk.new w 40 #[.int .i64 0, .int .i64 0]
  have o0 : Only [] w (w.alloc (.cells #[.int .i64 0, .int .i64 0] 40)) := (Only.refl [] w).alloc _
  refine (len_any (hH.keep o0)).mono ?_
  rintro e w1 ⟨rfl, o1⟩
  obtain ⟨c0, c1, cl⟩ := (o1.blk hbn (by simp)).facts2
  have f0 := (o1.blk hbn (by simp)).frozen 0
  have f1 := (o1.blk hbn (by simp)).frozen 1
  have HBn := Lib.hid (o1.blk hbn (by simp))
  have HO := Lib.hid (o0.trans o1 (by simp))
  clear hH o0 o1 hbn
  go_wp2_with (fail)
  have hb2 := (HBn.out.set_ 0 (.int .i64 0)).set_ 1 (.int .i64 0)
  obtain ⟨e0, e1, el⟩ := Blk.facts2 (a := .int .i64 0) (b := .int .i64 0) hb2
  refine bodyPost_ret (v := .tuple #[.agg #[.int .i64 0, .int .i64 0], .bool false]) (by simp [results, Try.results19, go_sem, e0, e1]) rfl ⟨rfl, (HO.out.setCell (.inr (by simp)) _).setCell (.inr (by simp)) _⟩
theorem min_some {B : Nat} {w : World} {g : Nat} {M : Option Nat} {L : List Ent} {A : Option Addr} {c : Nat} (hH : HB B w g M L A c) {x : Ent} (h0 : L[0]? = some x) :
    Calls Try.prog 19 #[.pointer (some ⟨g, 0, none⟩)] w fun e w' => e = .returned (.tuple #[.agg #[.int .i64 x.1, .int .i64 x.2], .bool true]) ∧ Only [] w w' := by
  have hl : 0 < L.length := (List.getElem?_eq_some_iff.1 h0).1
  go_enter Try.func19, Try.ntmps19
  go_wp2_with (fail)
  have hbn := Blk.new w 40 #[.int .i64 0, .int .i64 0]
  have o0 : Only [] w (w.alloc (.cells #[.int .i64 0, .int .i64 0] 40)) := (Only.refl [] w).alloc _
  refine (len_any (hH.keep o0)).mono ?_
  rintro e w1 ⟨rfl, o1⟩
  have hl1 : ¬ (L.length : Int) = 0 := by omega
  have hl2 : (0 : Int) < (L.length : Int) := by omega
  obtain ⟨c0, c1, cl⟩ := (o1.blk hbn (by simp)).facts2
  have f0 := (o1.blk hbn (by simp)).frozen 0
  have f1 := (o1.blk hbn (by simp)).frozen 1
  have h1 := (hH.keep o0).keep o1
  obtain ⟨g0, g1, g2, gl⟩ := h1.blk.facts3
  obtain ⟨p, rfl, pl, -, d0, d1⟩ := own_cell rfl h1.own h0
  simp only [Nat.zero_mul, Nat.zero_add] at d0 d1
  have HBn := Lib.hid (o1.blk hbn (by simp))
  have HO := Lib.hid (o0.trans o1 (by simp))
  clear hH o0 o1 hbn h1
  go_wp2_with (fail)
  have hb2 := (HBn.out.set_ 0 (.int .i64 x.1)).set_ 1 (.int .i64 x.2)
  obtain ⟨e0, e1, el⟩ := Blk.facts2 (a := .int .i64 x.1) (b := .int .i64 x.2) hb2
  refine bodyPost_ret (v := .tuple #[.agg #[.int .i64 x.1, .int .i64 x.2], .bool true]) (by simp [results, Try.results19, go_sem, e0, e1]) rfl ⟨rfl, (HO.out.setCell (.inr (by simp)) _).setCell (.inr (by simp)) _⟩
theorem new_some (w : World) : Calls Try.prog 9 #[FV] w fun e w' => e = .returned (.pointer (some ⟨w.heap.size + 1, 0, none⟩)) ∧ HB (w.heap.size + 1) w' (w.heap.size + 1) (some w.heap.size) [] none 0 ∧ Only [] w w' := by
  have hE : ∀ W, (binOp .eql 26 FV .nilFunc).run Try.prog W = .ok (.bool false) W := fun W => by kernel_rfl
  have hmm := @run_makeMap Try.prog
  go_enter Try.func9, Try.ntmps9
  go_wp2_with (fail)
  go_ret
  have hb := Blk.new (w.alloc (.map #[] 0)) 63 #[FV, .slice none 0 0, .map (some w.heap.size)]
  have hs : (w.alloc (.map #[] 0)).heap.size = w.heap.size + 1 := by simp
  rw [hs] at hb
  have hm : ((w.alloc (.map #[] 0)).alloc (.cells #[FV, .slice none 0 0, .map (some w.heap.size)] 63)).ownsMap Try.prog 3 (plainElem (H := Unit) Try.prog 3) w.heap.size 0 (.map []) := (World.ownsMap_made _ _ _ _).alloc _
  exact ⟨rfl, ⟨hb, World.ownsRow_nil _ _ _ _, fun e he => by simp at he, fun bm e => by injection e with e; subst e; exact ⟨_, hm, AtIs.nil⟩, by simp, Nat.le_refl _⟩, ((Only.refl [] w).alloc _).alloc _⟩
theorem new_none (w : World) : Calls Try.prog 9 #[.nilFunc] w fun e w' => e = .returned (.pointer none) ∧ Only [] w w' := by
  have hE : ∀ W, (binOp .eql 26 .nilFunc .nilFunc).run Try.prog W = .ok (.bool true) W := fun W => by kernel_rfl
  go_enter Try.func9, Try.ntmps9
  go_wp2_with (fail)
  go_ret
  exact ⟨rfl, Only.refl _ _⟩
theorem get_some {B : Nat} {w : World} {g bm : Nat} {L : List Ent} {A : Option Addr} {c : Nat} (hH : HB B w g (some bm) L A c) {i : Nat} {k b : Int} (hi : L[i]? = some (k, b)) :
    Calls Try.prog 15 #[.pointer (some ⟨g, 0, none⟩), .int .i64 k] w fun e w' => e = .returned (.tuple #[.int .i64 b, .bool true]) ∧ Only [] w w' := by
  obtain ⟨g0, g1, g2, gl⟩ := hH.blk.facts3
  obtain ⟨D, hD, hAt⟩ := hH.map bm rfl
  have hk : I64 k := (hH.okAt hi).1
  have hil : i < L.length := (List.getElem?_eq_some_iff.1 hi).1
  obtain ⟨p, rfl, pl, -, d0, d1⟩ := own_cell rfl hH.own hi
  have hhas : Maps.has D (ik k) = true := by rw [hAt.has_]; exact hasM_at hi
  have hat0 : ∀ z, D.atKey (ik k) z = iv i := hAt.at_ i _ hi
  have i0 : (0 : Int) ≤ (i : Int) := by omega
  have i1 : (i : Int) < (L.length : Int) := by omega
  clear hH hAt
  go_enter Try.func15, Try.ntmps15
  go_wp2_with (at_lookup; refine wpList_lookup_own_ok_int _ rfl _ _ 61 rfl 3 3 .i64 law3 Try.underlying61 Try.underlying3 (zero3 _) bm L.length D rfl hD _ _ rfl (key_of hk) ?_; intro c hat hwc; rw [hat0] at hat; (injection hat with hat); (injection hat with _ hat); subst hat; rw [hhas]; clear hwc)
  go_ret2
  exact ⟨rfl, Only.refl _ _⟩
theorem get_none {B : Nat} {w : World} {g bm : Nat} {L : List Ent} {A : Option Addr} {c : Nat} (hH : HB B w g (some bm) L A c) {k : Int} (hk : I64 k) (hi : hasM L k = false) :
    Calls Try.prog 15 #[.pointer (some ⟨g, 0, none⟩), .int .i64 k] w fun e w' => e = .returned (.tuple #[.int .i64 0, .bool false]) ∧ Only [] w w' := by
  obtain ⟨g0, g1, g2, gl⟩ := hH.blk.facts3
  obtain ⟨D, hD, hAt⟩ := hH.map bm rfl
  have hhas : Maps.has D (ik k) = false := by rw [hAt.has_]; exact hi
  clear hH hAt
  go_enter Try.func15, Try.ntmps15
  go_wp2_with (at_lookup; refine wpList_lookup_own_ok_int _ rfl _ _ 61 rfl 3 3 .i64 law3 Try.underlying61 Try.underlying3 (zero3 _) bm L.length D rfl hD _ _ rfl (key_of hk) ?_; intro c hat hwc; rw [hhas]; clear hwc hat)
  go_ret2
  exact ⟨rfl, (Only.refl _ _).alloc _⟩
end Go.Proofs.Ytodiemichniehaa
