/- A range over a function that hands out values that hang on the world. -/
import Derived.Test.YtfnacnlaphpflaaDoorRange
import Derived.RangeFuncNested
namespace Go.Kx
open Go.RowKit
section
variable {P : Program}
/-- THE ITERATOR gf, WITH ITS CAPTURED lb, HANDS OUT N values, the k-th one so that R k v, in the world as it stands there. -/
def SeqsP (P : Program) (gf : Nat) (lb : Array Value) (N : Nat) (R : Nat → Array Value → World → Prop) (prot : List Nat) (w0 : World) : Prop :=
  ∀ (l : Nat) (J : Nat → List Nat → World → Prop) (Jx : World → Prop) (W : World) (S : List Nat), KeepC w0.heap.size w0 W → w0.heap.size ≤ l → l < W.heap.size → (∀ b ∈ S, b < W.heap.size) → (∀ b ∈ prot, b ∉ S) →
    (∀ k S W1 W2, J k S W1 → Only [] W1 W2 → J k S W2) →
    (∀ k S W1 v, k < N → R k v W1 → J k S W1 → YieldAt Fence.wide 8 P l v W1 fun e W' =>
      (e = .returned (.bool true) ∧ (∃ S', J (k + 1) S' W' ∧ ∀ b ∈ S', (b ∈ S ∨ W1.heap.size ≤ b) ∧ b < W'.heap.size) ∧ Only (l :: S) W1 W') ∨ (e = .returned (.bool false) ∧ Jx W')) →
    J 0 S W →
    Calls P gf (#[.func (.yield l) #[] #[]] ++ lb) W fun e W' => (∃ v, e = .returned v) ∧ ((∃ S', J N S' W') ∨ Jx W')
/-- HOW THE BODY OF A ROUND MAY BE LEFT. -/
def seqPostP (I : Nat → List Nat → World → Prop) (Ix : Code → World → Prop) (k : Nat) (S : List Nat) (W : World) : Exit → Act → World → Prop
  | .normal, _, W' => (∃ S', I (k + 1) S' W' ∧ ∀ b ∈ S', (b ∈ S ∨ W.heap.size ≤ b) ∧ b < W'.heap.size) ∧ Only S W W'
  | .ret, _, W' => Ix .ret W' ∧ Only S W W'
  | .exit id, _, W' => Ix (.exit id) W' ∧ Only S W W'
  | .goto t, _, W' => Ix (.goto t) W' ∧ Only S W W'
  | .panic _, _, _ => False
  | .outgrown, _, _ => False
/-- where the round's assignment lays memory and the body is told of its own record -/
theorem wp_rangeFunc_seqsP {g : Operand} {ps : Array Tmp} {assign body : Code} {Q : Exit → Act → World → Prop} {a : Act} {w : World} {gf : Nat} {lb : Array Value} {N : Nat} {R : Nat → Array Value → World → Prop} {prot : List Nat}
    (hg : a.eval g = .func (.func gf) #[] lb) (eg : ∀ args w, (callFunc gf args).run P w = .ok (.enter gf args) w) (hseq : SeqsP P gf lb N R prot w) (hps : ∀ k v W, R k v W → v.size = ps.size)
    (S0 : List Nat) (hS0 : ∀ b ∈ S0, b < w.heap.size) (hprot : ∀ b ∈ prot, b ∉ S0)
    (I : Nat → List Nat → World → Prop) (Ix : Code → World → Prop) (hI : ∀ k S W1 W2, I k S W1 → KeepC w.heap.size W1 W2 → I k S W2) (hIx : ∀ c W1 W2, Ix c W1 → KeepC w.heap.size W1 W2 → Ix c W2)
    (h0 : I 0 S0 w)
    (hround : ∀ (l k : Nat) (v : Array Value) (S : List Nat) (V : World), w.heap.size ≤ l → l ∉ S → k < N → R k v V → I k S V →
      assign.wpIn (Fence.wide.inRound l) 8 P (Exit.then (fun a1 W1 => Only [] V W1 ∧ ∀ W, (∃ r, W.heap[l]? = some (.loop r)) → I k S W → KeepC w.heap.size W1 W → body.wpIn (Fence.wide.inRound l) 8 P (seqPostP I Ix k S W) a1 W) (fun _ _ _ => False)) { tmps := (ps.zip v).foldl (fun t (p, v) => t.setIfInBounds p v) a.tmps, defers := [] } V)
    (hdone : ∀ (D : Nat) (S : List Nat) (W : World), w.heap.size ≤ D → I N S W → W.heap[D]? = some (.deferred (some [])) → Q .normal { a with defers := { target := .collected D, args := #[] } :: a.defers } W)
    (hstop : ∀ (D : Nat) (c : Code) (W : World), w.heap.size ≤ D → Ix c W → W.heap[D]? = some (.deferred (some [])) → c.wp P Q { a with defers := { target := .collected D, args := #[] } :: a.defers } W) :
    (Code.rangeFunc g ps assign body).wp P Q a w := by
  refine (wpIn_wide (n := 9)).1 (wpIn_rangeFunc ?_)
  intro fn hfn
  obtain ⟨rec, hrec⟩ : ∃ rec : LoopState → Option Code → Loop, rec = fun st pe => { state := st, pending := pe, fn, tmps := a.tmps, params := ps, assign, body, defers := w.heap.size } := ⟨_, rfl⟩
  obtain ⟨W1, hW1⟩ : ∃ W1, (w.alloc (.deferred (some []))).alloc (.loop (rec .ready none)) = W1 := ⟨_, rfl⟩
  have hL1 : W1.heap[w.heap.size + 1]? = some (.loop (rec .ready none)) := by
    rw [← hW1]; have := World.alloc_heap_new (w.alloc (.deferred (some []))) (.loop (rec .ready none)); rwa [World.size_alloc] at this
  have hK1 : W1.heap[w.heap.size]? = some (.deferred (some [])) := by
    rw [← hW1]; exact (Below.heap_alloc _ _ _ (by simp)).trans (World.alloc_heap_new w _)
  have hO1 : Only [] w W1 := by rw [← hW1]; exact ((Only.refl [] w).alloc _).alloc _
  have hs1 : W1.heap.size = w.heap.size + 2 := by rw [← hW1]; simp
  refine ⟨w.heap.size + 1, [{ target := .collected w.heap.size, args := #[] }], W1, { target := .fn (.func gf) lb, args := #[.func (.yield (w.heap.size + 1)) #[] #[]] }, W1, gf,
    #[.func (.yield (w.heap.size + 1)) #[] #[]] ++ lb, W1, ?_, ?_, fun _ _ => trivial, ?_, fun _ => by omega, ?_⟩
  · rw [← hW1, hrec]; exact run_enterLoop_outer _ _ _ _ _
  · simp only [resolve, hg]
    simp [go_sem]
  · simp [invoke, go_sem, eg]
  · refine callsIn_wide.2 ((hseq (w.heap.size + 1)
      (fun k S W => I k S W ∧ w.heap.size ∉ S ∧ w.heap.size + 1 ∉ S ∧ w.heap.size + 2 ≤ W.heap.size ∧ W.heap[w.heap.size + 1]? = some (.loop (rec .ready none)) ∧ W.heap[w.heap.size]? = some (.deferred (some [])))
      (fun W => ∃ c, Ix c W ∧ W.heap[w.heap.size + 1]? = some (.loop (rec .done (some c))) ∧ W.heap[w.heap.size]? = some (.deferred (some [])))
      W1 S0 (KeepC.of_only hO1) (by omega) (by omega) (fun b hb => by have := hS0 b hb; omega) hprot ?_ ?_ ⟨hI _ _ _ _ h0 (KeepC.of_only hO1), fun h => by have := hS0 _ h; omega, fun h => by have := hS0 _ h; omega, by omega, hL1, hK1⟩).mono ?_)
    · rintro k S A B ⟨i1, i2, i3, i4, i5, i6⟩ ho
      exact ⟨hI _ _ _ _ i1 (KeepC.of_only ho), i2, i3, Nat.le_trans i4 ho.size, (ho.block _ (by omega) (by simp)).trans i5, (ho.block _ (by omega) (by simp)).trans i6⟩
    · -- ONE ROUND
      rintro k S V v hv hR ⟨hi0, hD, hl', hsz0, hl0, hk0⟩
      have hy := run_yield (P := P) (args := v) hl0 (by rw [hrec]; exact hps k v V hR)
      rw [hrec] at hy
      refine ⟨fn, _, assign, body, hy, roundIn_of_wpIn (F := Fence.wide) hfn (wpIn_mono (hround (w.heap.size + 1) k v S V (by omega) hl' hv hR hi0) ?_)⟩
      rintro e a1 W h
      cases e <;> first | exact (h : False).elim | skip
      obtain ⟨hg0, hbo⟩ : Only [] V W ∧ ∀ X, (∃ r, X.heap[w.heap.size + 1]? = some (.loop r)) → I k S X → KeepC w.heap.size W X → body.wpIn (Fence.wide.inRound (w.heap.size + 1)) 8 P (seqPostP I Ix k S X) a1 X := h
      have hgs := hg0.size
      have hl : W.heap[w.heap.size + 1]? = some (.loop (rec .ready none)) := (hg0.block _ (by omega) (by simp)).trans hl0
      have hk : W.heap[w.heap.size]? = some (.deferred (some [])) := (hg0.block _ (by omega) (by simp)).trans hk0
      have hi := hI _ _ _ _ hi0 (KeepC.of_only hg0)
      have hsz : w.heap.size + 2 ≤ W.heap.size := Nat.le_trans hsz0 hgs
      refine ⟨_, run_beginRound hl (by rw [hrec]), ?_⟩
      have hl2 : (W.putObj (w.heap.size + 1) (.loop { rec .ready none with state := .busy })).heap[w.heap.size + 1]? = some (.loop { rec .ready none with state := .busy }) := World.putObj_heap_same (by omega)
      have hk2 : (W.putObj (w.heap.size + 1) (.loop { rec .ready none with state := .busy })).heap[w.heap.size]? = some (.deferred (some [])) := (World.putObj_heap_other (by omega)).trans hk
      have hc2 : KeepC w.heap.size W (W.putObj (w.heap.size + 1) (.loop { rec .ready none with state := .busy })) := KeepC.putObj hl rfl (by omega)
      refine wpIn_mono (hbo _ ⟨_, hl2⟩ (hI _ _ _ _ hi hc2) hc2) ?_
      have fin : ∀ (jump : Option Code) (W3 : World), Only S (W.putObj (w.heap.size + 1) (.loop { rec .ready none with state := .busy })) W3 →
          (Instr.endRound (w.heap.size + 1) jump).run P W3 = .ok (.bool jump.isNone) (W3.putObj (w.heap.size + 1) (.loop (rec (if jump.isNone then .ready else .done) jump))) ∧
          W3.heap[w.heap.size + 1]? = some (.loop { rec .ready none with state := .busy }) ∧
          (W3.putObj (w.heap.size + 1) (.loop (rec (if jump.isNone then .ready else .done) jump))).heap[w.heap.size + 1]? = some (.loop (rec (if jump.isNone then .ready else .done) jump)) ∧
          (W3.putObj (w.heap.size + 1) (.loop (rec (if jump.isNone then .ready else .done) jump))).heap[w.heap.size]? = some (.deferred (some [])) ∧
          Only ((w.heap.size + 1) :: S) W (W3.putObj (w.heap.size + 1) (.loop (rec (if jump.isNone then .ready else .done) jump))) := fun jump W3 hk3 => by
        have hl3 := (hk3.block _ (by simp; omega) hl').trans hl2
        have hd3 := (hk3.block _ (by simp; omega) hD).trans hk2
        have := run_endRound (P := P) jump hl3
        rw [hrec] at this ⊢
        have hsz3 := hk3.size
        simp only [World.putObj_size] at hsz3
        refine ⟨this, by rw [hrec] at hl3; exact hl3, World.putObj_heap_same (Array.getElem?_eq_some_iff.1 hl3).1, (World.putObj_heap_other (by omega)).trans hd3, hk3.os, hk3.tape, hk3.output, by simp; omega, fun j hj hn => ?_⟩
        simp only [List.mem_cons, not_or] at hn
        rw [World.putObj_heap_other hn.1, hk3.block j (by simp; omega) hn.2, World.putObj_heap_other hn.1]
      rintro e a3 W3 hp
      cases e with
      | normal =>
        obtain ⟨⟨S', hi3, hS'⟩, hk3⟩ := hp
        obtain ⟨hr, hl3, hl4, hk4, ho4⟩ := fin none W3 hk3
        have hsz3 := hk3.size
        simp only [World.putObj_size] at hsz3 hS'
        refine ⟨_, _, hr, .inl ⟨rfl, ⟨S', ⟨hI _ _ _ _ hi3 (KeepC.putObj hl3 rfl (by omega)), ?_, ?_, by simp; omega, hl4, hk4⟩, fun b hb => ⟨(hS' b hb).1.imp id (fun x => Nat.le_trans hgs x), by simp; exact (hS' b hb).2⟩⟩, (hg0.mono (fun _ h => by simp at h)).trans ho4 (fun _ hx => .inl hx)⟩⟩
        · intro h; rcases (hS' _ h).1 with h | h; exact hD h; omega
        · intro h; rcases (hS' _ h).1 with h | h; exact hl' h; omega
      | ret =>
        obtain ⟨hi3, hk3⟩ := hp
        obtain ⟨hr, hl3, hl4, hk4, _⟩ := fin (some .ret) W3 hk3
        exact ⟨_, _, hr, .inr ⟨rfl, .ret, hIx _ _ _ hi3 (KeepC.putObj hl3 rfl (by omega)), hl4, hk4⟩⟩
      | exit id =>
        obtain ⟨hi3, hk3⟩ := hp
        obtain ⟨hr, hl3, hl4, hk4, _⟩ := fin (some (.exit id)) W3 hk3
        exact ⟨_, _, hr, .inr ⟨rfl, .exit id, hIx _ _ _ hi3 (KeepC.putObj hl3 rfl (by omega)), hl4, hk4⟩⟩
      | goto t =>
        obtain ⟨hi3, hk3⟩ := hp
        obtain ⟨hr, hl3, hl4, hk4, _⟩ := fin (some (.goto t)) W3 hk3
        exact ⟨_, _, hr, .inr ⟨rfl, .goto t, hIx _ _ _ hi3 (KeepC.putObj hl3 rfl (by omega)), hl4, hk4⟩⟩
      | panic ch => exact hp.elim
      | outgrown => exact hp.elim
    · -- BEHIND THE ITERATOR
      rintro e W2 ⟨⟨v, rfl⟩, (⟨S', hi, _, _, _, hl, hk⟩ | ⟨c, hi, hl, hk⟩)⟩
      · exact ⟨none, _, by have := run_endLoop (P := P) hl (by rw [hrec]; simp); rw [hrec] at this; exact this, hdone _ S' _ (Nat.le_refl _) (hI _ _ _ _ hi (KeepC.putObj hl rfl (by omega))) ((World.putObj_heap_other (by omega)).trans hk)⟩
      · exact ⟨some c, _, by have := run_endLoop (P := P) hl (by rw [hrec]; simp); rw [hrec] at this; exact this, wpIn_wide.2 (hstop _ c _ (Nat.le_refl _) (hIx _ _ _ hi (KeepC.putObj hl rfl (by omega))) ((World.putObj_heap_other (by omega)).trans hk))⟩
end
end Go.Kx
