/- A heap in memory; less. -/
import Derived.Test.YtodiemichniehaaOrd
namespace Go.Proofs.Ytodiemichniehaa
open Go.RowKit Go.Kx Go.Maps
set_option maxRecDepth 20000

abbrev FV : Value := .func (.func 10) #[] #[]
def I64 (z : Int) : Prop := -9223372036854775808 ≤ z ∧ z ≤ 9223372036854775807
theorem i64_nat {n : Nat} (h : n ≤ 9223372036854775807) : I64 (n : Int) := ⟨by omega, by omega⟩
theorem law3 : Keyed Try.prog 3 := int_keyed Try.underlying3
theorem zero3 (w : World) : (zeroValue 3).run Try.prog w = .ok (.int .i64 0) w := by kernel_rfl
theorem wf_of {z : Int} (h : I64 z) : (Lit.int .i64 z).wf = true := WalkArith.wf_i64 (by exact ⟨h.1, h.2⟩)
theorem key_of {z : Int} (h : I64 z) : keyOf Try.prog 3 (.int .i64 z) = some (ik z) := keyOf_int_mk Try.underlying3 (wf_of h)
theorem val_of {i : Nat} (h : i ≤ 9223372036854775807) : plainElem (H := Unit) Try.prog 3 (.int .i64 (i : Int)) = some (iv i, []) := plainElem_int Try.underlying3 (wf_of (i64_nat h))
/-- a map of keys to places -/
def MP (w : World) (bm : Nat) (L : List Ent) : Prop := ∃ D : DataW Unit, w.ownsMap Try.prog 3 (plainElem Try.prog 3) bm L.length D ∧ AtIs D L
theorem MP.lt {w : World} {bm : Nat} {L : List Ent} (h : MP w bm L) : bm < w.heap.size := by
  obtain ⟨D, h, _⟩ := h; exact h.lt
theorem ownsMap_of {w w' : World} {bm n : Nat} {D : DataW Unit} (h : w.ownsMap Try.prog 3 (plainElem Try.prog 3) bm n D) (e : w'.heap[bm]? = w.heap[bm]?) : w'.ownsMap Try.prog 3 (plainElem Try.prog 3) bm n D := by
  obtain ⟨es, clock, hb, r⟩ := h
  exact ⟨es, clock, e.trans hb, r⟩
theorem ownsMap_only {S : List Nat} {w w' : World} {bm n : Nat} {D : DataW Unit} (h : w.ownsMap Try.prog 3 (plainElem Try.prog 3) bm n D) (o : Only S w w') (hS : bm ∉ S) : w'.ownsMap Try.prog 3 (plainElem Try.prog 3) bm n D :=
  ownsMap_of h (o.block bm h.lt hS)
theorem MP.only {S : List Nat} {w w' : World} {bm : Nat} {L : List Ent} (h : MP w bm L) (o : Only S w w') (hS : bm ∉ S) : MP w' bm L := by
  obtain ⟨D, h, k⟩ := h
  exact ⟨D, ownsMap_only h o hS, k⟩
theorem MP.ne {w : World} {bm g : Nat} {L : List Ent} {t : TypeId} {cs : Array Value} (h : MP w bm L) (hb : Blk w g t cs) : bm ≠ g := fun e => by
  obtain ⟨D, ⟨es, clock, h, _⟩, _⟩ := h
  subst e
  unfold Blk at hb
  rw [hb] at h
  cases h
theorem MP.ne_own {w : World} {bm base n sz : Nat} {L : List Ent} {v : Value} {t : TypeId} {xs : List Value} (h : MP w bm L) (ho : w.ownsRow base t sz v n xs) : v.ownBlock ≠ some bm := fun e => by
  obtain ⟨D, ⟨es, clock, h, _⟩, _⟩ := h
  rcases ho.2 with ⟨rfl, _⟩ | ⟨g', cap, cur, rfl, _, hg, _⟩
  · simp [Value.ownBlock] at e
  · simp [Value.ownBlock] at e
    subst e
    rw [hg] at h
    cases h
/-- a heap: its block, its row; the map, if it has one -/
structure HB (B : Nat) (w : World) (g : Nat) (M : Option Nat) (L : List Ent) (A : Option Addr) (c : Nat) : Prop where
  blk : Blk w g 63 #[FV, .slice A L.length c, .map M]
  own : w.ownsRow B 40 2 (.slice A L.length c) L.length (flat2 L)
  ok : ∀ e ∈ L, I64 e.1 ∧ I64 e.2
  map : ∀ bm, M = some bm → MP w bm L
  nd : (L.map (·.1)).Nodup
  base : B ≤ g
abbrev heapS (g : Nat) (A : Option Addr) (M : Option Nat) : List Nat := g :: (A.toList.map (·.block) ++ M.toList)
theorem HB.only {B : Nat} {S : List Nat} {w w' : World} {g : Nat} {M : Option Nat} {L : List Ent} {A : Option Addr} {c : Nat} (h : HB B w g M L A c) (o : Only S w w') (hS : ∀ x ∈ heapS g A M, x ∉ S) : HB B w' g M L A c :=
  ⟨o.blk h.blk (hS g (by simp)), ownsRow_only o h.own (fun b hb => hS b (by cases A with | none => simp [Value.ownBlock] at hb | some p => simp [Value.ownBlock] at hb; subst hb; simp)), h.ok,
    fun bm e => (h.map bm e).only o (hS bm (by subst e; simp)), h.nd, h.base⟩
theorem HB.keep {B : Nat} {w w' : World} {g : Nat} {M : Option Nat} {L : List Ent} {A : Option Addr} {c : Nat} (h : HB B w g M L A c) (o : Only [] w w') : HB B w' g M L A c := h.only o (fun _ _ => by simp)
theorem HB.drewN {B : Nat} {w : World} {g : Nat} {M : Option Nat} {L : List Ent} {A : Option Addr} {c : Nat} (h : HB B w g M L A c) (n : Nat) : HB B (w.drewN n) g M L A c := h.keep ((Only.refl [] w).drewN n)
theorem HB.okAt {B : Nat} {w : World} {g : Nat} {M : Option Nat} {L : List Ent} {A : Option Addr} {c : Nat} (h : HB B w g M L A c) {i : Nat} {e : Ent} (hi : L[i]? = some e) : I64 e.1 ∧ I64 e.2 := h.ok e (List.mem_of_getElem? hi)

/-- what order answers -/
def ordV (a b : Ent) : Int := if elt a b then -1 else if elt b a then 1 else 0
theorem order_any (a b : Ent) (w : World) : Calls Try.prog 10 #[.agg #[.int .i64 a.1, .int .i64 a.2], .agg #[.int .i64 b.1, .int .i64 b.2]] w fun e w' => e = .returned (.int .i64 (ordV a b)) ∧ Only [] w w' := by
  unfold ordV
  by_cases h1 : elt a b
  · rw [if_pos h1]; exact order_lt a b (by simpa using h1) w
  · rw [if_neg h1]
    by_cases h2 : elt b a
    · rw [if_pos h2]; exact order_gt a b (by simpa using h1) (by simpa using h2) w
    · rw [if_neg h2]; exact order_eq a b (by simpa using h1) (by simpa using h2) w
theorem ordV_lt (a b : Ent) : decide (ordV a b < 0) = decide (elt a b) := by
  unfold ordV
  by_cases h1 : elt a b
  · simp [h1]
  · by_cases h2 : elt b a <;> simp [h1, h2]

theorem less_any {B : Nat} {w : World} {g : Nat} {M : Option Nat} {L : List Ent} {A : Option Addr} {c : Nat} (hH : HB B w g M L A c) {i j : Nat} {a b : Ent} (hi : L[i]? = some a) (hj : L[j]? = some b) {x : Bool} (hx : decide (elt a b) = x) :
    Calls Try.prog 36 #[.pointer (some ⟨g, 0, none⟩), .int .i64 i, .int .i64 j] w fun e w' => e = .returned (.bool x) ∧ Only [] w w' := by
  obtain ⟨g0, g1, g2, gl⟩ := hH.blk.facts3
  obtain ⟨p, rfl, pl, pb, ci0, ci1⟩ := own_cell rfl hH.own hi
  obtain ⟨p', hp', -, -, cj0, cj1⟩ := own_cell rfl hH.own hj
  injection hp' with hp'; injection hp' with hp'; subst hp'
  have hil : i < L.length := (List.getElem?_eq_some_iff.1 hi).1
  have hjl : j < L.length := (List.getElem?_eq_some_iff.1 hj).1
  have i0 : (0 : Int) ≤ (i : Int) := by omega
  have j0 : (0 : Int) ≤ (j : Int) := by omega
  have i1 : (i : Int) < (L.length : Int) := by omega
  have j1 : (j : Int) < (L.length : Int) := by omega
  rw [← ordV_lt] at hx
  clear hH hi hj hil hjl
  go_enter Try.func36, Try.ntmps36
  go_wp2_with (fail)
  go_still_tail 18, (by kernel_rfl)
  change wpList _ _ _ _ _ w.drew
  generalize hwd : w.drew = wd
  have o0 : Only [] w wd := by rw [← hwd]; exact (Only.refl [] w).drew
  clear hwd g0 g1 g2 gl ci0 ci1 cj0 cj1
  go_wp2_with (fail)
  refine (order_any a b wd).mono ?_
  rintro e w1 ⟨rfl, o⟩
  go_wp2_with (fail)
  go_ret
  exact ⟨by rw [← hx]; rfl, o0.trans o (by simp)⟩
end Go.Proofs.Ytodiemichniehaa
