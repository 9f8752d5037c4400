/- A range over a function whose iterator writes memory of its own: what it keeps is told by the blocks that were there and by the blocks of the loop's body. -/
import Derived.Test.YtpedlapemgjgaaaRange
namespace Go.Kx
open Go.RowKit

/-- All blocks below B, and those of S, are as they were. -/
structure KeepT (B : Nat) (S : List Nat) (W W' : World) : Prop where
  os : W'.os = W.os
  tape : W'.tape = W.tape
  output : W'.output = W.output
  size : W.heap.size ≤ W'.heap.size
  block : ∀ k, k < W.heap.size → (k < B ∨ k ∈ S) → W'.heap[k]? = W.heap[k]?
theorem KeepT.refl (B : Nat) (S : List Nat) (W : World) : KeepT B S W W := ⟨rfl, rfl, rfl, Nat.le_refl _, fun _ _ _ => rfl⟩
theorem KeepT.of_only {B : Nat} {S T : List Nat} {W W' : World} (h : Only T W W') (hT : ∀ b ∈ T, B ≤ b ∧ b ∉ S) : KeepT B S W W' :=
  ⟨h.os, h.tape, h.output, h.size, fun k hk ho => h.block k hk (fun hm => by
    obtain ⟨h1, h2⟩ := hT k hm
    rcases ho with ho | ho
    · omega
    · exact h2 ho)⟩
theorem KeepT.grow {B : Nat} {S : List Nat} {W W' : World} (h : Only [] W W') : KeepT B S W W' := KeepT.of_only h (fun _ h => by simp at h)
theorem KeepT.mono {B B' : Nat} {S S' : List Nat} {W W' : World} (h : KeepT B S W W') (hB : B' ≤ B) (hS : ∀ b ∈ S', b ∈ S) : KeepT B' S' W W' :=
  ⟨h.os, h.tape, h.output, h.size, fun k hk ho => h.block k hk (ho.imp (fun x => by omega) (hS k))⟩
theorem KeepT.trans {B : Nat} {S : List Nat} {a b c : World} (h : KeepT B S a b) (k : KeepT B S b c) : KeepT B S a c :=
  ⟨k.os.trans h.os, k.tape.trans h.tape, k.output.trans h.output, Nat.le_trans h.size k.size, fun i hi ho => (k.block i (Nat.lt_of_lt_of_le hi h.size) ho).trans (h.block i hi ho)⟩
theorem KeepT.putObj {B : Nat} {S : List Nat} {W : World} {l : Nat} {o' : Obj} (hB : B ≤ l) (hS : l ∉ S) : KeepT B S W (W.putObj l o') :=
  ⟨rfl, rfl, rfl, by simp, fun k hk hx => World.putObj_heap_other (fun e => by
    subst e
    rcases hx with hx | hx
    · omega
    · exact hS hx)⟩
theorem KeepT.blk {B : Nat} {S : List Nat} {W W' : World} (h : KeepT B S W W') {g : Nat} {t : TypeId} {cs : Array Value} (hb : Blk W g t cs) (hg : g < B ∨ g ∈ S) : Blk W' g t cs := (h.block g hb.lt hg).trans hb
theorem Only.keepT {B : Nat} {S T : List Nat} {w W W' : World} (h : Only S w W) (k : KeepT B T W W') (hB : w.heap.size ≤ B) : Only S w W' :=
  ⟨k.os.trans h.os, k.tape.trans h.tape, k.output.trans h.output, Nat.le_trans h.size k.size, fun i hi hn => (k.block i (Nat.lt_of_lt_of_le hi h.size) (.inl (by omega))).trans (h.block i hi hn)⟩

section
variable {P : Program}
/-- THE ITERATOR gf, WITH ITS CAPTURED lb, HANDS OUT vs; it writes blocks of its own alone. -/
def SeqsT (P : Program) (gf : Nat) (lb : Array Value) (vs : List (Array Value)) (prot : List Nat) (w0 : World) : Prop :=
  ∀ (l : Nat) (J : Nat → List Nat → World → Prop) (Jx : List Nat → World → Prop) (W : World) (S : List Nat), KeepC w0.heap.size w0 W → w0.heap.size ≤ l → l < W.heap.size → (∀ b ∈ S, b < W.heap.size) → (∀ b ∈ prot, b ∉ S) →
    (∀ k S W1 W2, J k S W1 → KeepT W.heap.size S W1 W2 → J k S W2) → (∀ S W1 W2, Jx S W1 → KeepT W.heap.size S W1 W2 → Jx S W2) →
    (∀ k S W1 v, vs[k]? = some v → J k S W1 → YieldAt Fence.wide 8 P l v W1 fun e W' =>
      (e = .returned (.bool true) ∧ (∃ S', J (k + 1) S' W' ∧ ∀ b ∈ S', b ∈ S ∨ W1.heap.size ≤ b) ∧ Only (l :: S) W1 W') ∨ (e = .returned (.bool false) ∧ (∃ S', Jx S' W' ∧ ∀ b ∈ S', b ∈ S ∨ W1.heap.size ≤ b) ∧ Only (l :: S) W1 W')) →
    J 0 S W →
    Calls P gf (#[.func (.yield l) #[] #[]] ++ lb) W fun e W' => (∃ v, e = .returned v) ∧ ((∃ S', J vs.length S' W') ∨ ∃ S', Jx S' W')
/-- HOW THE BODY OF A ROUND MAY BE LEFT. -/
def seqPostT (I : Nat → List Nat → World → Prop) (Ix : Code → List Nat → World → Prop) (k : Nat) (S : List Nat) (W : World) : Exit → Act → World → Prop
  | .normal, _, W' => (∃ S', I (k + 1) S' W' ∧ ∀ b ∈ S', b ∈ S ∨ W.heap.size ≤ b) ∧ Only S W W'
  | .ret, _, W' => (∃ S', Ix .ret S' W' ∧ ∀ b ∈ S', b ∈ S ∨ W.heap.size ≤ b) ∧ Only S W W'
  | .exit id, _, W' => (∃ S', Ix (.exit id) S' W' ∧ ∀ b ∈ S', b ∈ S ∨ W.heap.size ≤ b) ∧ Only S W W'
  | .goto t, _, W' => (∃ S', Ix (.goto t) S' W' ∧ ∀ b ∈ S', b ∈ S ∨ W.heap.size ≤ b) ∧ Only S W W'
  | .panic _, _, _ => False
  | .outgrown, _, _ => False
/-- the same, where the round's assignment lays memory -/
theorem wp_rangeFunc_seqsT {g : Operand} {ps : Array Tmp} {assign body : Code} {Q : Exit → Act → World → Prop} {a : Act} {w : World} {gf : Nat} {lb : Array Value} {vs : List (Array Value)} {prot : List Nat}
    (hg : a.eval g = .func (.func gf) #[] lb) (eg : ∀ args w, (callFunc gf args).run P w = .ok (.enter gf args) w) (hseq : SeqsT P gf lb vs prot w) (hps : ∀ v ∈ vs, v.size = ps.size)
    (S0 : List Nat) (hS0 : ∀ b ∈ S0, b < w.heap.size) (hprot : ∀ b ∈ prot, b ∉ S0)
    (I : Nat → List Nat → World → Prop) (Ix : Code → List Nat → World → Prop) (hI : ∀ k S W1 W2, I k S W1 → KeepT w.heap.size S W1 W2 → I k S W2) (hIx : ∀ c S W1 W2, Ix c S W1 → KeepT w.heap.size S W1 W2 → Ix c S W2)
    (h0 : I 0 S0 w) (a₁ : Nat → World → Act) (gw : Nat → World → World) (hgw : ∀ k W, Only [] W (gw k W))
    (hassign : ∀ (l k : Nat) (v : Array Value) (W : World) (K : Act → World → Prop), vs[k]? = some v → K (a₁ k W) (gw k W) →
      assign.wpIn (Fence.wide.inRound l) 8 P (Exit.then K (fun _ _ _ => False)) { tmps := (ps.zip v).foldl (fun t (p, v) => t.setIfInBounds p v) a.tmps, defers := [] } W)
    (hbody : ∀ (l k : Nat) (v : Array Value) (S : List Nat) (V W : World), vs[k]? = some v → I k S W → KeepC w.heap.size (gw k V) W → body.wpIn (Fence.wide.inRound l) 8 P (seqPostT I Ix k S W) (a₁ k V) W)
    (hdone : ∀ (D : Nat) (S : List Nat) (W : World), w.heap.size ≤ D → D ∉ S → I vs.length S W → W.heap[D]? = some (.deferred (some [])) → Q .normal { a with defers := { target := .collected D, args := #[] } :: a.defers } W)
    (hstop : ∀ (D : Nat) (c : Code) (S : List Nat) (W : World), w.heap.size ≤ D → D ∉ S → Ix c S W → W.heap[D]? = some (.deferred (some [])) → c.wp P Q { a with defers := { target := .collected D, args := #[] } :: a.defers } W) :
    (Code.rangeFunc g ps assign body).wp P Q a w := by
  refine (wpIn_wide (n := 9)).1 (wpIn_rangeFunc ?_)
  intro fn hfn
  obtain ⟨rec, hrec⟩ : ∃ rec : LoopState → Option Code → Loop, rec = fun st pe => { state := st, pending := pe, fn, tmps := a.tmps, params := ps, assign, body, defers := w.heap.size } := ⟨_, rfl⟩
  obtain ⟨W1, hW1⟩ : ∃ W1, (w.alloc (.deferred (some []))).alloc (.loop (rec .ready none)) = W1 := ⟨_, rfl⟩
  have hL1 : W1.heap[w.heap.size + 1]? = some (.loop (rec .ready none)) := by
    rw [← hW1]; have := World.alloc_heap_new (w.alloc (.deferred (some []))) (.loop (rec .ready none)); rwa [World.size_alloc] at this
  have hK1 : W1.heap[w.heap.size]? = some (.deferred (some [])) := by
    rw [← hW1]; exact (Below.heap_alloc _ _ _ (by simp)).trans (World.alloc_heap_new w _)
  have hO1 : Only [] w W1 := by rw [← hW1]; exact ((Only.refl [] w).alloc _).alloc _
  have hs1 : W1.heap.size = w.heap.size + 2 := by rw [← hW1]; simp
  refine ⟨w.heap.size + 1, [{ target := .collected w.heap.size, args := #[] }], W1, { target := .fn (.func gf) lb, args := #[.func (.yield (w.heap.size + 1)) #[] #[]] }, W1, gf,
    #[.func (.yield (w.heap.size + 1)) #[] #[]] ++ lb, W1, ?_, ?_, fun _ _ => trivial, ?_, fun _ => by omega, ?_⟩
  · rw [← hW1, hrec]; exact run_enterLoop_outer _ _ _ _ _
  · simp only [resolve, hg]
    simp [go_sem]
  · simp [invoke, go_sem, eg]
  · refine callsIn_wide.2 ((hseq (w.heap.size + 1)
      (fun k S W => I k S W ∧ w.heap.size ∉ S ∧ w.heap.size + 1 ∉ S ∧ w.heap.size + 2 ≤ W.heap.size ∧ W.heap[w.heap.size + 1]? = some (.loop (rec .ready none)) ∧ W.heap[w.heap.size]? = some (.deferred (some [])))
      (fun S W => ∃ c, Ix c S W ∧ w.heap.size ∉ S ∧ w.heap.size + 1 ∉ S ∧ W.heap[w.heap.size + 1]? = some (.loop (rec .done (some c))) ∧ W.heap[w.heap.size]? = some (.deferred (some [])))
      W1 S0 (KeepC.of_only hO1) (by omega) (by omega) (fun b hb => by have := hS0 b hb; omega) hprot ?_ ?_ ?_ ⟨hI _ _ _ _ h0 (KeepT.grow hO1), fun h => by have := hS0 _ h; omega, fun h => by have := hS0 _ h; omega, by omega, hL1, hK1⟩).mono ?_)
    · rintro k S A B ⟨i1, i2, i3, i4, i5, i6⟩ ho
      exact ⟨hI _ _ _ _ i1 (ho.mono (by omega) (fun _ h => h)), i2, i3, Nat.le_trans i4 ho.size, (ho.block _ (by omega) (.inl (by omega))).trans i5, (ho.block _ (by omega) (.inl (by omega))).trans i6⟩
    · rintro S A B ⟨c, i1, n1, n2, i2, i3⟩ ho
      have s1 : w.heap.size + 1 < A.heap.size := (Array.getElem?_eq_some_iff.1 i2).1
      exact ⟨c, hIx _ _ _ _ i1 (ho.mono (by omega) (fun _ h => h)), n1, n2, (ho.block _ (by omega) (.inl (by omega))).trans i2, (ho.block _ (by omega) (.inl (by omega))).trans i3⟩
    · -- ONE ROUND
      rintro k S V v hv ⟨hi0, hD, hl', hsz0, hl0, hk0⟩
      have hy := run_yield (P := P) (args := v) hl0 (by rw [hrec]; exact hps v (List.mem_of_getElem? hv))
      rw [hrec] at hy
      have hg0 := hgw k V
      have hl : (gw k V).heap[w.heap.size + 1]? = some (.loop (rec .ready none)) := (hg0.block _ (by omega) (by simp)).trans hl0
      have hk : (gw k V).heap[w.heap.size]? = some (.deferred (some [])) := (hg0.block _ (by omega) (by simp)).trans hk0
      have hi := hI _ _ _ _ hi0 (KeepT.grow hg0)
      have hsz : w.heap.size + 2 ≤ (gw k V).heap.size := Nat.le_trans hsz0 hg0.size
      have hga := hassign (w.heap.size + 1) k v V
      have hbo := fun W => hbody (w.heap.size + 1) k v S V W
      have hgs := hg0.size
      generalize gw k V = W at hg0 hl hk hi hsz hga hbo hgs
      refine ⟨fn, _, assign, body, hy, roundIn_of_wpIn (F := Fence.wide) hfn (hga _ hv ⟨_, run_beginRound hl (by rw [hrec]), ?_⟩)⟩
      have hl2 : (W.putObj (w.heap.size + 1) (.loop { rec .ready none with state := .busy })).heap[w.heap.size + 1]? = some (.loop { rec .ready none with state := .busy }) := World.putObj_heap_same (by omega)
      have hk2 : (W.putObj (w.heap.size + 1) (.loop { rec .ready none with state := .busy })).heap[w.heap.size]? = some (.deferred (some [])) := (World.putObj_heap_other (by omega)).trans hk
      have hc2 : KeepC w.heap.size W (W.putObj (w.heap.size + 1) (.loop { rec .ready none with state := .busy })) := KeepC.putObj hl rfl (by omega)
      refine wpIn_mono (hbo _ hv (hI _ _ _ _ hi (KeepT.putObj (by omega) hl')) hc2) ?_
      have fin : ∀ (jump : Option Code) (W3 : World), Only S (W.putObj (w.heap.size + 1) (.loop { rec .ready none with state := .busy })) W3 →
          (Instr.endRound (w.heap.size + 1) jump).run P W3 = .ok (.bool jump.isNone) (W3.putObj (w.heap.size + 1) (.loop (rec (if jump.isNone then .ready else .done) jump))) ∧
          W3.heap[w.heap.size + 1]? = some (.loop { rec .ready none with state := .busy }) ∧
          (W3.putObj (w.heap.size + 1) (.loop (rec (if jump.isNone then .ready else .done) jump))).heap[w.heap.size + 1]? = some (.loop (rec (if jump.isNone then .ready else .done) jump)) ∧
          (W3.putObj (w.heap.size + 1) (.loop (rec (if jump.isNone then .ready else .done) jump))).heap[w.heap.size]? = some (.deferred (some [])) ∧
          Only ((w.heap.size + 1) :: S) W (W3.putObj (w.heap.size + 1) (.loop (rec (if jump.isNone then .ready else .done) jump))) := fun jump W3 hk3 => by
        have hl3 := (hk3.block _ (by simp; omega) hl').trans hl2
        have hd3 := (hk3.block _ (by simp; omega) hD).trans hk2
        have := run_endRound (P := P) jump hl3
        rw [hrec] at this ⊢
        have hsz3 := hk3.size
        simp only [World.putObj_size] at hsz3
        refine ⟨this, by rw [hrec] at hl3; exact hl3, World.putObj_heap_same (Array.getElem?_eq_some_iff.1 hl3).1, (World.putObj_heap_other (by omega)).trans hd3, hk3.os, hk3.tape, hk3.output, by simp; omega, fun j hj hn => ?_⟩
        simp only [List.mem_cons, not_or] at hn
        rw [World.putObj_heap_other hn.1, hk3.block j (by simp; omega) hn.2, World.putObj_heap_other hn.1]
      rintro e a3 W3 hp
      cases e with
      | normal =>
        obtain ⟨⟨S', hi3, hS'⟩, hk3⟩ := hp
        obtain ⟨hr, hl3, hl4, hk4, ho4⟩ := fin none W3 hk3
        have hsz3 := hk3.size
        simp only [World.putObj_size] at hsz3 hS'
        have hl5 : w.heap.size + 1 ∉ S' := by
          intro h; rcases hS' _ h with h | h; exact hl' h; omega
        refine ⟨_, _, hr, .inl ⟨rfl, ⟨S', ⟨hI _ _ _ _ hi3 (KeepT.putObj (by omega) hl5), ?_, ?_, by simp; omega, hl4, hk4⟩, fun b hb => (hS' b hb).imp (fun x => x) (fun x => Nat.le_trans hgs x)⟩, (hg0.mono (fun _ h => by simp at h)).trans ho4 (fun _ hx => .inl hx)⟩⟩
        · intro h; rcases hS' _ h with h | h; exact hD h; omega
        · intro h; rcases hS' _ h with h | h; exact hl' h; omega
      | ret =>
        obtain ⟨⟨S', hi3, hS'⟩, hk3⟩ := hp
        obtain ⟨hr, -, hl4, hk4, ho4⟩ := fin (some .ret) W3 hk3
        have hsz3 := hk3.size
        simp only [World.putObj_size] at hsz3 hS'
        have hl5 : w.heap.size + 1 ∉ S' := by
          intro h; rcases hS' _ h with h | h; exact hl' h; omega
        have hl6 : w.heap.size ∉ S' := by
          intro h; rcases hS' _ h with h | h; exact hD h; omega
        exact ⟨_, _, hr, .inr ⟨rfl, ⟨S', ⟨.ret, hIx _ _ _ _ hi3 (KeepT.putObj (by omega) hl5), hl6, hl5, hl4, hk4⟩, fun b hb => (hS' b hb).imp (fun x => x) (fun x => Nat.le_trans hgs x)⟩, (hg0.mono (fun _ h => by simp at h)).trans ho4 (fun _ hx => .inl hx)⟩⟩
      | exit id =>
        obtain ⟨⟨S', hi3, hS'⟩, hk3⟩ := hp
        obtain ⟨hr, -, hl4, hk4, ho4⟩ := fin (some (.exit id)) W3 hk3
        have hsz3 := hk3.size
        simp only [World.putObj_size] at hsz3 hS'
        have hl5 : w.heap.size + 1 ∉ S' := by
          intro h; rcases hS' _ h with h | h; exact hl' h; omega
        have hl6 : w.heap.size ∉ S' := by
          intro h; rcases hS' _ h with h | h; exact hD h; omega
        exact ⟨_, _, hr, .inr ⟨rfl, ⟨S', ⟨.exit id, hIx _ _ _ _ hi3 (KeepT.putObj (by omega) hl5), hl6, hl5, hl4, hk4⟩, fun b hb => (hS' b hb).imp (fun x => x) (fun x => Nat.le_trans hgs x)⟩, (hg0.mono (fun _ h => by simp at h)).trans ho4 (fun _ hx => .inl hx)⟩⟩
      | goto t =>
        obtain ⟨⟨S', hi3, hS'⟩, hk3⟩ := hp
        obtain ⟨hr, -, hl4, hk4, ho4⟩ := fin (some (.goto t)) W3 hk3
        have hsz3 := hk3.size
        simp only [World.putObj_size] at hsz3 hS'
        have hl5 : w.heap.size + 1 ∉ S' := by
          intro h; rcases hS' _ h with h | h; exact hl' h; omega
        have hl6 : w.heap.size ∉ S' := by
          intro h; rcases hS' _ h with h | h; exact hD h; omega
        exact ⟨_, _, hr, .inr ⟨rfl, ⟨S', ⟨.goto t, hIx _ _ _ _ hi3 (KeepT.putObj (by omega) hl5), hl6, hl5, hl4, hk4⟩, fun b hb => (hS' b hb).imp (fun x => x) (fun x => Nat.le_trans hgs x)⟩, (hg0.mono (fun _ h => by simp at h)).trans ho4 (fun _ hx => .inl hx)⟩⟩
      | panic ch => exact hp.elim
      | outgrown => exact hp.elim
    · -- BEHIND THE ITERATOR
      rintro e W2 ⟨⟨v, rfl⟩, (⟨S', hi, hd', hl', _, hl, hk⟩ | ⟨S', c, hi, hd', hl', hl, hk⟩)⟩
      · exact ⟨none, _, by have := run_endLoop (P := P) hl (by rw [hrec]; simp); rw [hrec] at this; exact this, hdone _ S' _ (Nat.le_refl _) hd' (hI _ _ _ _ hi (KeepT.putObj (by omega) hl')) ((World.putObj_heap_other (by omega)).trans hk)⟩
      · exact ⟨some c, _, by have := run_endLoop (P := P) hl (by rw [hrec]; simp); rw [hrec] at this; exact this, wpIn_wide.2 (hstop _ c S' _ (Nat.le_refl _) hd' (hIx _ _ _ _ hi (KeepT.putObj (by omega) hl')) ((World.putObj_heap_other (by omega)).trans hk))⟩
end
end Go.Kx
