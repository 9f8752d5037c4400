/- A range over a function within a round of another range over a function. -/
import Derived.Test.YtlhmhpopppfpkaaRangeA
import Derived.RangeFuncNested
namespace Go.Kx
open Go.RowKit
section
variable {P : Program}
/-- where the round's assignment lays memory and the body is told of its own record -/
theorem wp_rangeFunc_seqsR {g : Operand} {ps : Array Tmp} {assign body : Code} {Q : Exit → Act → World → Prop} {a : Act} {w : World} {gf : Nat} {lb : Array Value} {vs : List (Array Value)} {prot : List Nat}
    (hg : a.eval g = .func (.func gf) #[] lb) (eg : ∀ args w, (callFunc gf args).run P w = .ok (.enter gf args) w) (hseq : Seqs P gf lb vs prot w) (hps : ∀ v ∈ vs, v.size = ps.size)
    (S0 : List Nat) (hS0 : ∀ b ∈ S0, b < w.heap.size) (hprot : ∀ b ∈ prot, b ∉ S0)
    (I : Nat → List Nat → World → Prop) (Ix : Code → World → Prop) (hI : ∀ k S W1 W2, I k S W1 → KeepC w.heap.size W1 W2 → I k S W2) (hIx : ∀ c W1 W2, Ix c W1 → KeepC w.heap.size W1 W2 → Ix c W2)
    (h0 : I 0 S0 w) (a₁ : Nat → World → Act) (gw : Nat → World → World) (hgw : ∀ k W, Only [] W (gw k W))
    (hassign : ∀ (l k : Nat) (v : Array Value) (W : World) (K : Act → World → Prop), vs[k]? = some v → K (a₁ k W) (gw k W) →
      assign.wpIn (Fence.wide.inRound l) 8 P (Exit.then K (fun _ _ _ => False)) { tmps := (ps.zip v).foldl (fun t (p, v) => t.setIfInBounds p v) a.tmps, defers := [] } W)
    (hbody : ∀ (l k : Nat) (v : Array Value) (S : List Nat) (V W : World), w.heap.size ≤ l → l ∉ S → (∃ r, W.heap[l]? = some (.loop r)) → vs[k]? = some v → I k S V → I k S W → KeepC w.heap.size (gw k V) W → body.wpIn (Fence.wide.inRound l) 8 P (seqPost I Ix k S W) (a₁ k V) W)
    (hdone : ∀ (D : Nat) (S : List Nat) (W : World), w.heap.size ≤ D → I vs.length S W → W.heap[D]? = some (.deferred (some [])) → Q .normal { a with defers := { target := .collected D, args := #[] } :: a.defers } W)
    (hstop : ∀ (D : Nat) (c : Code) (W : World), w.heap.size ≤ D → Ix c W → W.heap[D]? = some (.deferred (some [])) → c.wp P Q { a with defers := { target := .collected D, args := #[] } :: a.defers } W) :
    (Code.rangeFunc g ps assign body).wp P Q a w := by
  refine (wpIn_wide (n := 9)).1 (wpIn_rangeFunc ?_)
  intro fn hfn
  obtain ⟨rec, hrec⟩ : ∃ rec : LoopState → Option Code → Loop, rec = fun st pe => { state := st, pending := pe, fn, tmps := a.tmps, params := ps, assign, body, defers := w.heap.size } := ⟨_, rfl⟩
  obtain ⟨W1, hW1⟩ : ∃ W1, (w.alloc (.deferred (some []))).alloc (.loop (rec .ready none)) = W1 := ⟨_, rfl⟩
  have hL1 : W1.heap[w.heap.size + 1]? = some (.loop (rec .ready none)) := by
    rw [← hW1]; have := World.alloc_heap_new (w.alloc (.deferred (some []))) (.loop (rec .ready none)); rwa [World.size_alloc] at this
  have hK1 : W1.heap[w.heap.size]? = some (.deferred (some [])) := by
    rw [← hW1]; exact (Below.heap_alloc _ _ _ (by simp)).trans (World.alloc_heap_new w _)
  have hO1 : Only [] w W1 := by rw [← hW1]; exact ((Only.refl [] w).alloc _).alloc _
  have hs1 : W1.heap.size = w.heap.size + 2 := by rw [← hW1]; simp
  refine ⟨w.heap.size + 1, [{ target := .collected w.heap.size, args := #[] }], W1, { target := .fn (.func gf) lb, args := #[.func (.yield (w.heap.size + 1)) #[] #[]] }, W1, gf,
    #[.func (.yield (w.heap.size + 1)) #[] #[]] ++ lb, W1, ?_, ?_, fun _ _ => trivial, ?_, fun _ => by omega, ?_⟩
  · rw [← hW1, hrec]; exact run_enterLoop_outer _ _ _ _ _
  · simp only [resolve, hg]
    simp [go_sem]
  · simp [invoke, go_sem, eg]
  · refine callsIn_wide.2 ((hseq (w.heap.size + 1)
      (fun k S W => I k S W ∧ w.heap.size ∉ S ∧ w.heap.size + 1 ∉ S ∧ w.heap.size + 2 ≤ W.heap.size ∧ W.heap[w.heap.size + 1]? = some (.loop (rec .ready none)) ∧ W.heap[w.heap.size]? = some (.deferred (some [])))
      (fun W => ∃ c, Ix c W ∧ W.heap[w.heap.size + 1]? = some (.loop (rec .done (some c))) ∧ W.heap[w.heap.size]? = some (.deferred (some [])))
      W1 S0 (KeepC.of_only hO1) (by omega) (by omega) (fun b hb => by have := hS0 b hb; omega) hprot ?_ ?_ ⟨hI _ _ _ _ h0 (KeepC.of_only hO1), fun h => by have := hS0 _ h; omega, fun h => by have := hS0 _ h; omega, by omega, hL1, hK1⟩).mono ?_)
    · rintro k S A B ⟨i1, i2, i3, i4, i5, i6⟩ ho
      exact ⟨hI _ _ _ _ i1 (KeepC.of_only ho), i2, i3, Nat.le_trans i4 ho.size, (ho.block _ (by omega) (by simp)).trans i5, (ho.block _ (by omega) (by simp)).trans i6⟩
    · -- ONE ROUND
      rintro k S V v hv ⟨hi0, hD, hl', hsz0, hl0, hk0⟩
      have hy := run_yield (P := P) (args := v) hl0 (by rw [hrec]; exact hps v (List.mem_of_getElem? hv))
      rw [hrec] at hy
      have hg0 := hgw k V
      have hl : (gw k V).heap[w.heap.size + 1]? = some (.loop (rec .ready none)) := (hg0.block _ (by omega) (by simp)).trans hl0
      have hk : (gw k V).heap[w.heap.size]? = some (.deferred (some [])) := (hg0.block _ (by omega) (by simp)).trans hk0
      have hi := hI _ _ _ _ hi0 (KeepC.of_only hg0)
      have hsz : w.heap.size + 2 ≤ (gw k V).heap.size := Nat.le_trans hsz0 hg0.size
      have hga := hassign (w.heap.size + 1) k v V
      have hbo := fun W => hbody (w.heap.size + 1) k v S V W
      have hgs := hg0.size
      generalize gw k V = W at hg0 hl hk hi hsz hga hbo hgs
      refine ⟨fn, _, assign, body, hy, roundIn_of_wpIn (F := Fence.wide) hfn (hga _ hv ⟨_, run_beginRound hl (by rw [hrec]), ?_⟩)⟩
      have hl2 : (W.putObj (w.heap.size + 1) (.loop { rec .ready none with state := .busy })).heap[w.heap.size + 1]? = some (.loop { rec .ready none with state := .busy }) := World.putObj_heap_same (by omega)
      have hk2 : (W.putObj (w.heap.size + 1) (.loop { rec .ready none with state := .busy })).heap[w.heap.size]? = some (.deferred (some [])) := (World.putObj_heap_other (by omega)).trans hk
      have hc2 : KeepC w.heap.size W (W.putObj (w.heap.size + 1) (.loop { rec .ready none with state := .busy })) := KeepC.putObj hl rfl (by omega)
      refine wpIn_mono (hbo _ (by omega) hl' ⟨_, hl2⟩ hv hi0 (hI _ _ _ _ hi hc2) hc2) ?_
      have fin : ∀ (jump : Option Code) (W3 : World), Only S (W.putObj (w.heap.size + 1) (.loop { rec .ready none with state := .busy })) W3 →
          (Instr.endRound (w.heap.size + 1) jump).run P W3 = .ok (.bool jump.isNone) (W3.putObj (w.heap.size + 1) (.loop (rec (if jump.isNone then .ready else .done) jump))) ∧
          W3.heap[w.heap.size + 1]? = some (.loop { rec .ready none with state := .busy }) ∧
          (W3.putObj (w.heap.size + 1) (.loop (rec (if jump.isNone then .ready else .done) jump))).heap[w.heap.size + 1]? = some (.loop (rec (if jump.isNone then .ready else .done) jump)) ∧
          (W3.putObj (w.heap.size + 1) (.loop (rec (if jump.isNone then .ready else .done) jump))).heap[w.heap.size]? = some (.deferred (some [])) ∧
          Only ((w.heap.size + 1) :: S) W (W3.putObj (w.heap.size + 1) (.loop (rec (if jump.isNone then .ready else .done) jump))) := fun jump W3 hk3 => by
        have hl3 := (hk3.block _ (by simp; omega) hl').trans hl2
        have hd3 := (hk3.block _ (by simp; omega) hD).trans hk2
        have := run_endRound (P := P) jump hl3
        rw [hrec] at this ⊢
        have hsz3 := hk3.size
        simp only [World.putObj_size] at hsz3
        refine ⟨this, by rw [hrec] at hl3; exact hl3, World.putObj_heap_same (Array.getElem?_eq_some_iff.1 hl3).1, (World.putObj_heap_other (by omega)).trans hd3, hk3.os, hk3.tape, hk3.output, by simp; omega, fun j hj hn => ?_⟩
        simp only [List.mem_cons, not_or] at hn
        rw [World.putObj_heap_other hn.1, hk3.block j (by simp; omega) hn.2, World.putObj_heap_other hn.1]
      rintro e a3 W3 hp
      cases e with
      | normal =>
        obtain ⟨⟨S', hi3, hS'⟩, hk3⟩ := hp
        obtain ⟨hr, hl3, hl4, hk4, ho4⟩ := fin none W3 hk3
        have hsz3 := hk3.size
        simp only [World.putObj_size] at hsz3 hS'
        refine ⟨_, _, hr, .inl ⟨rfl, ⟨S', ⟨hI _ _ _ _ hi3 (KeepC.putObj hl3 rfl (by omega)), ?_, ?_, by simp; omega, hl4, hk4⟩, fun b hb => (hS' b hb).imp id (fun x => Nat.le_trans hgs x)⟩, (hg0.mono (fun _ h => by simp at h)).trans ho4 (fun _ hx => .inl hx)⟩⟩
        · intro h; rcases hS' _ h with h | h; exact hD h; omega
        · intro h; rcases hS' _ h with h | h; exact hl' h; omega
      | ret =>
        obtain ⟨hi3, hk3⟩ := hp
        obtain ⟨hr, hl3, hl4, hk4, _⟩ := fin (some .ret) W3 hk3
        exact ⟨_, _, hr, .inr ⟨rfl, .ret, hIx _ _ _ hi3 (KeepC.putObj hl3 rfl (by omega)), hl4, hk4⟩⟩
      | exit id =>
        obtain ⟨hi3, hk3⟩ := hp
        obtain ⟨hr, hl3, hl4, hk4, _⟩ := fin (some (.exit id)) W3 hk3
        exact ⟨_, _, hr, .inr ⟨rfl, .exit id, hIx _ _ _ hi3 (KeepC.putObj hl3 rfl (by omega)), hl4, hk4⟩⟩
      | goto t =>
        obtain ⟨hi3, hk3⟩ := hp
        obtain ⟨hr, hl3, hl4, hk4, _⟩ := fin (some (.goto t)) W3 hk3
        exact ⟨_, _, hr, .inr ⟨rfl, .goto t, hIx _ _ _ hi3 (KeepC.putObj hl3 rfl (by omega)), hl4, hk4⟩⟩
      | panic ch => exact hp.elim
      | outgrown => exact hp.elim
    · -- BEHIND THE ITERATOR
      rintro e W2 ⟨⟨v, rfl⟩, (⟨S', hi, _, _, _, hl, hk⟩ | ⟨c, hi, hl, hk⟩)⟩
      · exact ⟨none, _, by have := run_endLoop (P := P) hl (by rw [hrec]; simp); rw [hrec] at this; exact this, hdone _ S' _ (Nat.le_refl _) (hI _ _ _ _ hi (KeepC.putObj hl rfl (by omega))) ((World.putObj_heap_other (by omega)).trans hk)⟩
      · exact ⟨some c, _, by have := run_endLoop (P := P) hl (by rw [hrec]; simp); rw [hrec] at this; exact this, wpIn_wide.2 (hstop _ c _ (Nat.le_refl _) (hIx _ _ _ hi (KeepC.putObj hl rfl (by omega))) ((World.putObj_heap_other (by omega)).trans hk))⟩
/-- A contract goes into a round as it is. -/
theorem callsIn_round {n l0 : Nat} {f : FuncId} {args : Array Value} {w : World} {R : Ending → World → Prop} (h : Calls P f args w R) : CallsIn (Fence.wide.inRound l0) n P f args w R :=
  let h1 := (callsIn_wide (n := n)).2 h
  ⟨h1.1, fun cs hr => h1.2 cs hr⟩
/-- the rule within a round of loop l0 -/
theorem wpIn_rangeFunc_seqsN {l0 : Nat} {r0 : Loop} {g : Operand} {ps : Array Tmp} {assign body : Code} {Q : Exit → Act → World → Prop} {a : Act} {w : World} {gf : Nat} {lb : Array Value} {vs : List (Array Value)} {prot : List Nat} (hl0 : w.heap[l0]? = some (.loop r0))
    (hg : a.eval g = .func (.func gf) #[] lb) (eg : ∀ args w, (callFunc gf args).run P w = .ok (.enter gf args) w) (hseq : Seqs P gf lb vs prot w) (hps : ∀ v ∈ vs, v.size = ps.size)
    (S0 : List Nat) (hS0 : ∀ b ∈ S0, b < w.heap.size) (hprot : ∀ b ∈ prot, b ∉ S0)
    (I : Nat → List Nat → World → Prop) (Ix : Code → World → Prop) (hI : ∀ k S W1 W2, I k S W1 → KeepC w.heap.size W1 W2 → I k S W2) (hIx : ∀ c W1 W2, Ix c W1 → KeepC w.heap.size W1 W2 → Ix c W2)
    (h0 : I 0 S0 w) (a₁ : Nat → Act)
    (hassign : ∀ (l k : Nat) (v : Array Value) (W : World) (K : Act → World → Prop), vs[k]? = some v → K (a₁ k) W →
      assign.wpIn (Fence.wide.inRound l) 8 P (Exit.then K (fun _ _ _ => False)) { tmps := (ps.zip v).foldl (fun t (p, v) => t.setIfInBounds p v) a.tmps, defers := [] } W)
    (hbody : ∀ (l k : Nat) (v : Array Value) (S : List Nat) (W : World), vs[k]? = some v → I k S W → body.wpIn (Fence.wide.inRound l) 8 P (seqPost I Ix k S W) (a₁ k) W)
    (hdone : ∀ (S : List Nat) (W : World), I vs.length S W → Q .normal a W)
    (hstop : ∀ (c : Code) (W : World), Ix c W → c.wpIn (Fence.wide.inRound l0) 8 P Q a W) :
    (Code.rangeFunc g ps assign body).wpIn (Fence.wide.inRound l0) 8 P Q a w := by
  refine wpIn_rangeFunc ?_
  intro fn hfn
  obtain ⟨rec, hrec⟩ : ∃ rec : LoopState → Option Code → Loop, rec = fun st pe => { state := st, pending := pe, fn, tmps := a.tmps, params := ps, assign, body, defers := r0.defers } := ⟨_, rfl⟩
  obtain ⟨W1, hW1⟩ : ∃ W1, w.alloc (.loop (rec .ready none)) = W1 := ⟨_, rfl⟩
  have hL1 : W1.heap[w.heap.size]? = some (.loop (rec .ready none)) := by
    rw [← hW1]; exact World.alloc_heap_new w _
  have hO1 : Only [] w W1 := by rw [← hW1]; exact (Only.refl [] w).alloc _
  have hs1 : W1.heap.size = w.heap.size + 1 := by rw [← hW1]; simp
  refine ⟨w.heap.size, [], W1, { target := .fn (.func gf) lb, args := #[.func (.yield (w.heap.size)) #[] #[]] }, W1, gf,
    #[.func (.yield (w.heap.size)) #[] #[]] ++ lb, W1, ?_, ?_, fun _ _ => trivial, ?_, fun _ => by omega, ?_⟩
  · rw [← hW1, hrec]; exact run_enterLoop_inner hl0 _ _ _ _ _
  · simp only [resolve, hg]
    simp [go_sem]
  · simp [invoke, go_sem, eg]
  · refine callsIn_round ((hseq (w.heap.size)
      (fun k S W => I k S W ∧ w.heap.size ∉ S ∧ w.heap.size + 1 ≤ W.heap.size ∧ W.heap[w.heap.size]? = some (.loop (rec .ready none)))
      (fun W => ∃ c, Ix c W ∧ W.heap[w.heap.size]? = some (.loop (rec .done (some c))))
      W1 S0 (KeepC.of_only hO1) (by omega) (by omega) (fun b hb => by have := hS0 b hb; omega) hprot ?_ ?_ ⟨hI _ _ _ _ h0 (KeepC.of_only hO1), fun h => by have := hS0 _ h; omega, by omega, hL1⟩).mono ?_)
    · rintro k S A B ⟨i1, i3, i4, i5⟩ ho
      exact ⟨hI _ _ _ _ i1 (KeepC.of_only ho), i3, Nat.le_trans i4 ho.size, (ho.block _ (by omega) (by simp)).trans i5⟩
    · -- ONE ROUND
      rintro k S W v hv ⟨hi, hl', hsz, hl⟩
      have hy := run_yield (P := P) (args := v) hl (by rw [hrec]; exact hps v (List.mem_of_getElem? hv))
      rw [hrec] at hy
      refine ⟨fn, _, assign, body, hy, roundIn_of_wpIn (F := Fence.wide) hfn (hassign _ k v W _ hv ⟨_, run_beginRound hl (by rw [hrec]), ?_⟩)⟩
      have hl2 : (W.putObj (w.heap.size) (.loop { rec .ready none with state := .busy })).heap[w.heap.size]? = some (.loop { rec .ready none with state := .busy }) := World.putObj_heap_same (by omega)
      have hc2 : KeepC w.heap.size W (W.putObj (w.heap.size) (.loop { rec .ready none with state := .busy })) := KeepC.putObj hl rfl (by omega)
      refine wpIn_mono (hbody _ k v S _ hv (hI _ _ _ _ hi hc2)) ?_
      have fin : ∀ (jump : Option Code) (W3 : World), Only S (W.putObj (w.heap.size) (.loop { rec .ready none with state := .busy })) W3 →
          (Instr.endRound (w.heap.size) jump).run P W3 = .ok (.bool jump.isNone) (W3.putObj (w.heap.size) (.loop (rec (if jump.isNone then .ready else .done) jump))) ∧
          W3.heap[w.heap.size]? = some (.loop { rec .ready none with state := .busy }) ∧
          (W3.putObj (w.heap.size) (.loop (rec (if jump.isNone then .ready else .done) jump))).heap[w.heap.size]? = some (.loop (rec (if jump.isNone then .ready else .done) jump)) ∧
          Only ((w.heap.size) :: S) W (W3.putObj (w.heap.size) (.loop (rec (if jump.isNone then .ready else .done) jump))) := fun jump W3 hk3 => by
        have hl3 := (hk3.block _ (by simp; omega) hl').trans hl2
        have := run_endRound (P := P) jump hl3
        rw [hrec] at this ⊢
        have hsz3 := hk3.size
        simp only [World.putObj_size] at hsz3
        refine ⟨this, by rw [hrec] at hl3; exact hl3, World.putObj_heap_same (Array.getElem?_eq_some_iff.1 hl3).1, hk3.os, hk3.tape, hk3.output, by simp; omega, fun j hj hn => ?_⟩
        simp only [List.mem_cons, not_or] at hn
        rw [World.putObj_heap_other hn.1, hk3.block j (by simp; omega) hn.2, World.putObj_heap_other hn.1]
      rintro e a3 W3 hp
      cases e with
      | normal =>
        obtain ⟨⟨S', hi3, hS'⟩, hk3⟩ := hp
        obtain ⟨hr, hl3, hl4, ho4⟩ := fin none W3 hk3
        have hsz3 := hk3.size
        simp only [World.putObj_size] at hsz3 hS'
        refine ⟨_, _, hr, .inl ⟨rfl, ⟨S', ⟨hI _ _ _ _ hi3 (KeepC.putObj hl3 rfl (by omega)), ?_, by simp; omega, hl4⟩, hS'⟩, ho4⟩⟩
        · intro h; rcases hS' _ h with h | h; exact hl' h; omega
      | ret =>
        obtain ⟨hi3, hk3⟩ := hp
        obtain ⟨hr, hl3, hl4, _⟩ := fin (some .ret) W3 hk3
        exact ⟨_, _, hr, .inr ⟨rfl, .ret, hIx _ _ _ hi3 (KeepC.putObj hl3 rfl (by omega)), hl4⟩⟩
      | exit id =>
        obtain ⟨hi3, hk3⟩ := hp
        obtain ⟨hr, hl3, hl4, _⟩ := fin (some (.exit id)) W3 hk3
        exact ⟨_, _, hr, .inr ⟨rfl, .exit id, hIx _ _ _ hi3 (KeepC.putObj hl3 rfl (by omega)), hl4⟩⟩
      | goto t =>
        obtain ⟨hi3, hk3⟩ := hp
        obtain ⟨hr, hl3, hl4, _⟩ := fin (some (.goto t)) W3 hk3
        exact ⟨_, _, hr, .inr ⟨rfl, .goto t, hIx _ _ _ hi3 (KeepC.putObj hl3 rfl (by omega)), hl4⟩⟩
      | panic ch => exact hp.elim
      | outgrown => exact hp.elim
    · -- BEHIND THE ITERATOR
      rintro e W2 ⟨⟨v, rfl⟩, (⟨S', hi, _, _, hl⟩ | ⟨c, hi, hl⟩)⟩
      · exact ⟨none, _, by have := run_endLoop (P := P) hl (by rw [hrec]; simp); rw [hrec] at this; exact this, hdone S' _ (hI _ _ _ _ hi (KeepC.putObj hl rfl (by omega)))⟩
      · exact ⟨some c, _, by have := run_endLoop (P := P) hl (by rw [hrec]; simp); rw [hrec] at this; exact this, hstop c _ (hIx _ _ _ hi (KeepC.putObj hl rfl (by omega)))⟩
end
end Go.Kx
