/- A net in memory: New, Take. -/
import Derived.Test.YtlhmhpopppfpkaaNet
namespace Go.Proofs.Ytlhmhpopppfpkaa
open Go.RowKit Go.Kx Go.Maps
set_option maxRecDepth 100000

theorem _root_.Go.Kx.Blk.facts1 {w : World} {g : Nat} {t : TypeId} {a : Value} (h : Blk w g t #[a]) : w.cell? ⟨g, 0, none⟩ = some a ∧ g < w.heap.size :=
  ⟨by simpa using h.cell 0, h.lt⟩
theorem _root_.Go.Kx.Blk.facts2 {w : World} {g : Nat} {t : TypeId} {a b : Value} (h : Blk w g t #[a, b]) : w.cell? ⟨g, 0, none⟩ = some a ∧ w.cell? ⟨g, 1, none⟩ = some b ∧ g < w.heap.size :=
  ⟨by simpa using h.cell 0, by simpa using h.cell 1, h.lt⟩
theorem _root_.Go.Kx.Blk.facts3 {w : World} {g : Nat} {t : TypeId} {a b c : Value} (h : Blk w g t #[a, b, c]) : w.cell? ⟨g, 0, none⟩ = some a ∧ w.cell? ⟨g, 1, none⟩ = some b ∧ w.cell? ⟨g, 2, none⟩ = some c ∧ g < w.heap.size :=
  ⟨by simpa using h.cell 0, by simpa using h.cell 1, by simpa using h.cell 2, h.lt⟩
abbrev Lane.bs (l : Lane) : List Nat := [l.b, l.rb]
abbrev netS (bm : Nat) (Ls : List (Pr × Lane)) : List Nat := bm :: Ls.flatMap fun e => e.2.bs
theorem ownsMap_of {w w' : World} {bm n : Nat} {D : DataW Value} (h : w.ownsMap Try.prog 50 RH bm n D) (e : w'.heap[bm]? = w.heap[bm]?) : w'.ownsMap Try.prog 50 RH bm n D := by
  obtain ⟨es, clock, hb, r⟩ := h
  exact ⟨es, clock, e.trans hb, r⟩
structure NB (B : Nat) (w : World) (g bm : Nat) (n room : Nat) (Ls : List (Pr × Lane)) : Prop where
  blk : Blk w g 58 #[.int .i64 n, .int .i64 room, .map (some bm)]
  map : ∃ D, w.ownsMap Try.prog 50 RH bm Ls.length D ∧ LD D Ls
  qu : ∀ e ∈ Ls, Qu w e.2.b e.2.rb e.2.size e.2.xs ∧ 1 ≤ e.2.size ∧ e.2.size ≤ room
  lo : ∀ e ∈ Ls, ∀ x ∈ e.2.bs, B ≤ x ∧ x < w.heap.size ∧ x ≠ g ∧ x ≠ bm
  apart : Ls.Pairwise fun e f => ∀ x ∈ e.2.bs, x ∉ f.2.bs
  dims : 1 ≤ n ∧ n ≤ 8 ∧ 1 ≤ room ∧ room ≤ 65536
  base : B ≤ g ∧ B ≤ bm
theorem NB.gm {B : Nat} {w : World} {g bm n room : Nat} {Ls : List (Pr × Lane)} (h : NB B w g bm n room Ls) : g ≠ bm := fun e => by
  obtain ⟨D, ⟨es, clock, hb, _⟩, _⟩ := h.map
  have := h.blk
  unfold Blk at this
  rw [e, hb] at this
  cases this
theorem NB.mlt {B : Nat} {w : World} {g bm n room : Nat} {Ls : List (Pr × Lane)} (h : NB B w g bm n room Ls) : bm < w.heap.size := by
  obtain ⟨D, hD, _⟩ := h.map
  exact hD.lt
theorem NB.only {B : Nat} {S : List Nat} {w w' : World} {g bm n room : Nat} {Ls : List (Pr × Lane)} (h : NB B w g bm n room Ls) (o : Only S w w') (hS : ∀ x ∈ g :: netS bm Ls, x ∉ S) : NB B w' g bm n room Ls := by
  refine ⟨o.blk h.blk (hS g (by simp)), ?_, fun e he => ?_, fun e he x hx => ?_, h.apart, h.dims, h.base⟩
  · obtain ⟨D, hD, hl⟩ := h.map
    exact ⟨D, ownsMap_of hD (o.block bm hD.lt (hS bm (by simp))), hl⟩
  · have hb : ∀ x ∈ e.2.bs, x ∉ S := fun x hx => hS x (List.mem_cons_of_mem _ (List.mem_cons_of_mem _ (List.mem_flatMap.2 ⟨e, he, hx⟩)))
    exact ⟨(h.qu e he).1.only o (hb _ (by simp)) (hb _ (by simp)), (h.qu e he).2⟩
  · have := h.lo e he x hx
    have := o.size
    exact ⟨by omega, by omega, by omega, by omega⟩
theorem NB.keep {B : Nat} {w w' : World} {g bm n room : Nat} {Ls : List (Pr × Lane)} (h : NB B w g bm n room Ls) (o : Only [] w w') : NB B w' g bm n room Ls := h.only o (fun _ _ => by simp)
theorem NB.fresh {B B0 : Nat} {w : World} {g bm n room : Nat} {Ls : List (Pr × Lane)} (h : NB B w g bm n room Ls) (hB : B0 ≤ B) : ∀ x ∈ netS bm Ls, x ∈ ([] : List Nat) ∨ B0 ≤ x := fun x hx => by
  rcases List.mem_cons.1 hx with rfl | hx
  · have := h.base; exact .inr (by omega)
  · obtain ⟨e, he, hx⟩ := List.mem_flatMap.1 hx
    have := h.lo e he x hx
    exact .inr (by omega)
theorem new_net (n room : Nat) (hn : 1 ≤ n ∧ n ≤ 8) (hr : 1 ≤ room ∧ room ≤ 65536) (w : World) :
    Calls Try.prog 9 #[.int .i64 n, .int .i64 room] w fun e w' => e = .returned (.tuple #[.pointer (some ⟨w.heap.size + 1, 0, none⟩), .int .i64 0]) ∧ NB w.heap.size w' (w.heap.size + 1) w.heap.size n room [] ∧ Only [] w w' := by
  have h1 : decide ((n : Int) < 1) = false := by simp; omega
  have h2 : decide ((8 : Int) < (n : Int)) = false := by simp; omega
  have h3 : decide ((room : Int) < 1) = false := by simp; omega
  have h4 : decide ((65536 : Int) < (room : Int)) = false := by simp; omega
  have hmm := @run_makeMap Try.prog
  go_enter Try.func9, Try.ntmps9
  go_wp2_with (fail)
  go_ret2
  have hb := Blk.new (w.alloc (.map #[] 0)) 58 #[.int .i64 n, .int .i64 room, .map (some w.heap.size)]
  have hs : (w.alloc (.map #[] 0)).heap.size = w.heap.size + 1 := by simp
  rw [hs] at hb
  have hm : ((w.alloc (.map #[] 0)).alloc (.cells #[.int .i64 n, .int .i64 room, .map (some w.heap.size)] 58)).ownsMap Try.prog 50 RH w.heap.size 0 (.map []) := (World.ownsMap_made _ _ _ _).alloc _
  exact ⟨rfl, ⟨hb, ⟨_, hm, LD.nil⟩, fun e he => by simp at he, fun e he => by simp at he, List.Pairwise.nil, ⟨hn.1, hn.2, hr.1, hr.2⟩, by omega, Nat.le_refl _⟩, ((Only.refl [] w).alloc _).alloc _⟩
theorem new_bad_net {n room : Int} (h : n < 1 ∨ 8 < n ∨ room < 1 ∨ 65536 < room) (w : World) :
    Calls Try.prog 9 #[.int .i64 n, .int .i64 room] w fun e w' => e = .returned (.tuple #[.pointer none, .int .i64 1]) ∧ Only [] w w' := by
  have key : decide (n < 1) = true ∨ decide (n < 1) = false ∧ decide (8 < n) = true ∨ decide (n < 1) = false ∧ decide (8 < n) = false ∧ decide (room < 1) = true ∨ decide (n < 1) = false ∧ decide (8 < n) = false ∧ decide (room < 1) = false ∧ decide (65536 < room) = true := by
    simp; omega
  rcases key with h1 | ⟨h1, h2⟩ | ⟨h1, h2, h3⟩ | ⟨h1, h2, h3, h4⟩
  all_goals
    go_enter Try.func9, Try.ntmps9
    go_wp2_with (fail)
    go_ret2
    exact ⟨rfl, Only.refl _ _⟩
/-- a lane's items turn -/
def turnL (Ls : List (Pr × Lane)) (p : Pr) (l : Lane) : List (Pr × Lane) := Ls.map fun e => if e.1 = p then (p, l) else e
theorem len_nilq (w : World) : Calls Try.prog 19 #[.pointer none] w fun e w' => e = .returned (.int .i64 0) ∧ Only [] w w' := by
  go_enter Try.func19, Try.ntmps19
  go_wp2_with (fail)
  go_ret
  exact ⟨rfl, Only.refl _ _⟩
theorem peek_nilq (w : World) : Calls Try.prog 28 #[.pointer none] w fun e w' => e = .returned (.tuple #[.int .i64 0, .bool false]) ∧ Only [] w w' := by
  go_enter Try.func28, Try.ntmps28
  go_wp2_with (fail)
  refine (len_nilq _).mono ?_
  rintro e w1 ⟨rfl, o1⟩
  go_wp2_with (fail)
  go_ret2
  exact ⟨rfl, o1.alloc _⟩
theorem pop_nilq (w : World) : Calls Try.prog 22 #[.pointer none] w fun e w' => e = .returned (.tuple #[.int .i64 0, .bool false]) ∧ Only [] w w' := by
  go_enter Try.func22, Try.ntmps22
  go_wp2_with (fail)
  refine (peek_nilq _).mono ?_
  rintro e w1 ⟨rfl, o1⟩
  go_wp2_with (fail)
  go_ret2
  exact ⟨rfl, o1⟩
end Go.Proofs.Ytlhmhpopppfpkaa
