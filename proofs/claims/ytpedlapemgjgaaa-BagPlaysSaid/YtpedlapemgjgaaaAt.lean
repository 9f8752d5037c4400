/- At. -/
import Derived.Test.YtpedlapemgjgaaaNew
namespace Go.Proofs.Ytpedlapemgjgaaa
open Go.RowKit Go.Kx Go.Bag
set_option maxRecDepth 100000
set_option maxHeartbeats 1000000 in
theorem atI {B : Nat} {w : World} {g : Nat} {L : List Int} {A : Option Addr} {c : Nat} (hT : BBI B w g L A c) {k : Nat} {x : Int} (hx : L[k]? = some x) :
    Calls Try.prog 20 #[.pointer (some ⟨g, 0, none⟩), .int .i64 (k : Int)] w fun e w' => e = .returned (.tuple #[.int .i64 x, .bool true]) ∧ Only [] w w' := by
  obtain ⟨g0, g1, gl⟩ := hT.blk.facts2
  have hk : k < L.length := (List.getElem?_eq_some_iff.1 hx).1
  have hl := Lib.hid (fun (W : World) (o : Only [] w W) => lenI (hT.keep o))
  obtain ⟨b, hA, hb, -, c0⟩ := own_cell1 rfl hT.row hx
  subst hA
  generalize L.length = n at g1 hk hl
  have h0 : decide ((k : Int) < 0) = false := decide_eq_false (by omega)
  have h1 : decide ((n : Int) ≤ (k : Int)) = false := decide_eq_false (by omega)
  clear hT hx
  go_enter Try.func20, Try.ntmps20
  go_wp2_with (fail)
  refine (hl.out _ (by first | exact Only.refl _ _ | exact (Only.refl _ _).alloc _)).mono ?_
  rintro e w1 ⟨rfl, rfl⟩
  clear hl
  go_wp2_with (fail)
  go_ret2
  exact ⟨rfl, Only.refl _ _⟩
set_option maxHeartbeats 1000000 in
theorem atoutI {B : Nat} {w : World} {g : Nat} {L : List Int} {A : Option Addr} {c : Nat} (hT : BBI B w g L A c) {k : Int} (hx : k < 0 ∨ (L.length : Int) ≤ k) :
    Calls Try.prog 20 #[.pointer (some ⟨g, 0, none⟩), .int .i64 k] w fun e w' => e = .returned (.tuple #[.int .i64 0, .bool false]) ∧ Only [] w w' := by
  have hl := Lib.hid (fun (W : World) (o : Only [] w W) => lenI (hT.keep o))
  generalize L.length = n at hx hl
  clear hT
  obtain ⟨p, hp⟩ : ∃ p, decide (k < 0) = p := ⟨_, rfl⟩
  have h1 : p = false → decide ((n : Int) ≤ k) = true := fun h => by
    subst h
    have := of_decide_eq_false hp
    exact decide_eq_true (by omega)
  clear hx
  cases p with
  | true =>
    clear h1 hl
    go_enter Try.func20, Try.ntmps20
    go_wp2_with (fail)
    go_ret2
    exact ⟨rfl, (Only.refl _ _).alloc _⟩
  | false =>
    replace h1 := h1 rfl
    go_enter Try.func20, Try.ntmps20
    go_wp2_with (fail)
    refine (hl.out _ (by first | exact Only.refl _ _ | exact (Only.refl _ _).alloc _)).mono ?_
    rintro e w1 ⟨rfl, rfl⟩
    clear hl
    go_wp2_with (fail)
    go_ret2
    exact ⟨rfl, (Only.refl _ _).alloc _⟩
set_option maxHeartbeats 1000000 in
theorem atJ {B : Nat} {w : World} {g : Nat} {L : List Ent} {A : Option Addr} {c : Nat} (hT : BBJ B w g L A c) {k : Nat} {x : Ent} (hx : L[k]? = some x) :
    Calls Try.prog 29 #[.pointer (some ⟨g, 0, none⟩), .int .i64 (k : Int)] w fun e w' => e = .returned (.tuple #[.agg #[.int .i64 x.1, .int .i64 x.2], .bool true]) ∧ Only [] w w' := by
  obtain ⟨g0, g1, gl⟩ := hT.blk.facts2
  have hk : k < L.length := (List.getElem?_eq_some_iff.1 hx).1
  have hl := Lib.hid (fun (W : World) (o : Only [] w W) => lenJ (hT.keep o))
  obtain ⟨b, hA, hb, -, c0, c1⟩ := own_cell rfl hT.row hx
  subst hA
  generalize L.length = n at g1 hk hl
  have h0 : decide ((k : Int) < 0) = false := decide_eq_false (by omega)
  have h1 : decide ((n : Int) ≤ (k : Int)) = false := decide_eq_false (by omega)
  clear hT hx
  go_enter Try.func29, Try.ntmps29
  go_wp2_with (fail)
  refine (hl.out _ (by first | exact Only.refl _ _ | exact (Only.refl _ _).alloc _)).mono ?_
  rintro e w1 ⟨rfl, rfl⟩
  clear hl
  go_wp2_with (fail)
  exact bodyPost_ret (v := .tuple #[.agg #[.int .i64 x.1, .int .i64 x.2], .bool true]) (by simp [results, Try.results29, go_sem]) rfl ⟨rfl, (Only.refl _ _).alloc _⟩
set_option maxHeartbeats 1000000 in
theorem atoutJ {B : Nat} {w : World} {g : Nat} {L : List Ent} {A : Option Addr} {c : Nat} (hT : BBJ B w g L A c) {k : Int} (hx : k < 0 ∨ (L.length : Int) ≤ k) :
    Calls Try.prog 29 #[.pointer (some ⟨g, 0, none⟩), .int .i64 k] w fun e w' => e = .returned (.tuple #[.agg #[.int .i64 0, .int .i64 0], .bool false]) ∧ Only [] w w' := by
  have hl := Lib.hid (fun (W : World) (o : Only [] w W) => lenJ (hT.keep o))
  generalize L.length = n at hx hl
  clear hT
  obtain ⟨p, hp⟩ : ∃ p, decide (k < 0) = p := ⟨_, rfl⟩
  have h1 : p = false → decide ((n : Int) ≤ k) = true := fun h => by
    subst h
    have := of_decide_eq_false hp
    exact decide_eq_true (by omega)
  clear hx
  cases p with
  | true =>
    clear h1 hl
    go_enter Try.func29, Try.ntmps29
    go_wp2_with (fail)
    exact bodyPost_ret (v := .tuple #[.agg #[.int .i64 0, .int .i64 0], .bool false]) (by simp [results, Try.results29, go_sem]) rfl ⟨rfl, by first | exact ((Only.refl _ _).alloc _).alloc _ | exact (((Only.refl [] w).alloc _).alloc _).setCell (.inr (by simp)) _⟩
  | false =>
    replace h1 := h1 rfl
    go_enter Try.func29, Try.ntmps29
    go_wp2_with (fail)
    refine (hl.out _ (by first | exact Only.refl _ _ | exact (Only.refl _ _).alloc _)).mono ?_
    rintro e w1 ⟨rfl, rfl⟩
    clear hl
    go_wp2_with (fail)
    exact bodyPost_ret (v := .tuple #[.agg #[.int .i64 0, .int .i64 0], .bool false]) (by simp [results, Try.results29, go_sem]) rfl ⟨rfl, by first | exact ((Only.refl _ _).alloc _).alloc _ | exact (((Only.refl [] w).alloc _).alloc _).setCell (.inr (by simp)) _⟩
end Go.Proofs.Ytpedlapemgjgaaa
