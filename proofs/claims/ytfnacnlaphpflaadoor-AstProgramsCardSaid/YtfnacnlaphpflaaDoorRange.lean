/- A range over a function: an iterator that hands out a known list, and a loop over it, by sets of blocks that the loop's body may write. -/
import Derived.Test.YtfnacnlaphpflaaDoorWords
import Derived.RangeFuncNested
import Derived.RangeFuncBound
import Derived.RangeFuncCalls
import Derived.RangeFuncLeaves
import Derived.WalkKit
import Derived.OwnWalkIn
import Derived.TacticsInMore
import Derived.LoopNIn
import Derived.LoopIn
namespace Go.Kx
open Go.RowKit

/-- All cells that there were, and all blocks below B, are as they were. -/
structure KeepC (B : Nat) (W W' : World) : Prop where
  os : W'.os = W.os
  tape : W'.tape = W.tape
  output : W'.output = W.output
  size : W.heap.size ≤ W'.heap.size
  block : ∀ (k : Nat) (o : Obj), W.heap[k]? = some o → (k < B ∨ o.isCells = true) → W'.heap[k]? = some o

theorem KeepC.refl (B : Nat) (W : World) : KeepC B W W := ⟨rfl, rfl, rfl, Nat.le_refl _, fun _ _ h _ => h⟩
theorem KeepC.trans {B : Nat} {a b c : World} (h : KeepC B a b) (k : KeepC B b c) : KeepC B a c :=
  ⟨k.os.trans h.os, k.tape.trans h.tape, k.output.trans h.output, Nat.le_trans h.size k.size, fun i o hi ho => k.block i o (h.block i o hi ho) ho⟩
theorem KeepC.mono {B B' : Nat} {a b : World} (h : KeepC B a b) (hB : B' ≤ B) : KeepC B' a b :=
  ⟨h.os, h.tape, h.output, h.size, fun i o hi ho => h.block i o hi (ho.imp (fun x => Nat.lt_of_lt_of_le x hB) id)⟩
theorem KeepC.putObj {B : Nat} {W : World} {l : Nat} {o o' : Obj} (hl : W.heap[l]? = some o) (ho : o.isCells = false) (hB : B ≤ l) : KeepC B W (W.putObj l o') :=
  ⟨rfl, rfl, rfl, by simp, fun k x hk hx => by
    by_cases e : k = l
    · subst e
      rw [hl] at hk
      cases hk
      rcases hx with hx | hx
      · omega
      · rw [ho] at hx; cases hx
    · rw [World.putObj_heap_other e]; exact hk⟩
theorem KeepC.of_only {B : Nat} {W W' : World} (h : Only [] W W') : KeepC B W W' :=
  ⟨h.os, h.tape, h.output, h.size, fun k o hk _ => (h.block k (Array.getElem?_eq_some_iff.1 hk).1 (by simp)).trans hk⟩
theorem KeepC.blk {B : Nat} {W W' : World} (h : KeepC B W W') {g : Nat} {t : TypeId} {cs : Array Value} (hb : Blk W g t cs) : Blk W' g t cs := h.block g _ hb (.inr rfl)
theorem Only.keepC {B : Nat} {S : List Nat} {w W W' : World} (h : Only S w W) (k : KeepC B W W') (hB : w.heap.size ≤ B) : Only S w W' :=
  ⟨k.os.trans h.os, k.tape.trans h.tape, k.output.trans h.output, Nat.le_trans h.size k.size, fun i hi hn => by
    have h1 := h.block i hi hn
    have hlt : i < W.heap.size := Nat.lt_of_lt_of_le hi h.size
    obtain ⟨o, ho⟩ : ∃ o, W.heap[i]? = some o := ⟨_, Array.getElem?_eq_getElem hlt⟩
    rw [k.block i o ho (.inl (by omega)), ← ho, h1]⟩
theorem KeepC.cell {B : Nat} {W W' : World} (h : KeepC B W W') {p : Addr} {v : Value} (hp : W.cell? p = some v) : W'.cell? p = some v := by
  obtain ⟨o, ho, hc⟩ := cells_of_cell hp
  have e : W'.heap[p.block]? = W.heap[p.block]? := (h.block _ _ ho (.inr hc)).trans ho.symm
  exact (World.cell?_of_block e).trans hp

theorem ownsRow_keepC {B : Nat} {W W' : World} (h : KeepC B W W') {base : Nat} {e : TypeId} {size : Nat} {v : Value} {n : Nat} {xs : List Value} (ho : W.ownsRow base e size v n xs) : W'.ownsRow base e size v n xs := by
  obtain ⟨h1, h2⟩ := ho
  refine ⟨h1, ?_⟩
  rcases h2 with h2 | ⟨g, cap, cur, hv, hg, hh, r⟩
  · exact .inl h2
  · exact .inr ⟨g, cap, cur, hv, hg, h.block g _ hh (.inr rfl), r⟩

theorem enters {P : Program} {f : FuncId} {fn : Func} {c : Code} (hf : P.funcs[f]? = some fn) (hname : (fn.name == "runtime.NumGoroutine") = false) (hb : fn.body = some c) : ∀ args w, (callFunc f args).run P w = .ok (.enter f args) w := by
  intro args w
  have h1 : fn.name ≠ "runtime.NumGoroutine" := by simpa using hname
  simp [callFunc, hf, h1, hb]

theorem wpListIn_append_run {F : Fence} {n : Nat} {P : Program} {w w1 : World} {ops : Array Oper} {rest : List Oper} {o : Oper} {a : Act} {Q : Exit → Act → World → Prop} {v xv r : Value} {t1 t2 ty : TypeId}
    (hrun : (Builtin.append_ #[t1, t2] ty #[v, xv]).run P w = .ok r w1) (hg : o.guard = none) (s x : Operand)
    (hop : o.op = .call { callee := .builtin .append, args := #[s, x], argTypes := #[t1, t2] }) (hty : o.type = ty) (hs : a.eval s = v) (hx : a.eval x = xv)
    (hK : wpListIn F n P ops Q rest (a.put o.dst r) w1) : wpListIn F n P ops Q (o :: rest) a w := by
  refine wpListIn_plain hg fun K h => ?_
  subst hty
  unfold Oper.wpIn
  refine ⟨?_, ?_⟩
  · simp [Oper.about, hop, resolve, Target.leads, Sem.run_pure]
  · rw [Oper.semAt_plain F _ _ (by rw [hop]; intro c hc'; cases hc')]
    simp [execOp, hop, resolve, invoke, builtin, hs, hx, hrun, Result.andThen]
    exact h _ _ hK

section
variable {P : Program}

/-- THE ITERATOR gf, WITH ITS CAPTURED lb, HANDS OUT vs; what it reads lies in the blocks prot. -/
def Seqs (P : Program) (gf : Nat) (lb : Array Value) (vs : List (Array Value)) (prot : List Nat) (w0 : World) : Prop :=
  ∀ (l : Nat) (J : Nat → List Nat → World → Prop) (Jx : World → Prop) (W : World) (S : List Nat), KeepC w0.heap.size w0 W → w0.heap.size ≤ l → l < W.heap.size → (∀ b ∈ S, b < W.heap.size) → (∀ b ∈ prot, b ∉ S) →
    (∀ k S W1 W2, J k S W1 → Only [] W1 W2 → J k S W2) →
    (∀ k S W1 v, vs[k]? = some v → J k S W1 → YieldAt Fence.wide 8 P l v W1 fun e W' =>
      (e = .returned (.bool true) ∧ (∃ S', J (k + 1) S' W' ∧ ∀ b ∈ S', b ∈ S ∨ W1.heap.size ≤ b) ∧ Only (l :: S) W1 W') ∨ (e = .returned (.bool false) ∧ Jx W')) →
    J 0 S W →
    Calls P gf (#[.func (.yield l) #[] #[]] ++ lb) W fun e W' => (∃ v, e = .returned v) ∧ ((∃ S', J vs.length S' W') ∨ Jx W')

/-- HOW THE BODY OF A ROUND MAY BE LEFT. -/
def seqPost (I : Nat → List Nat → World → Prop) (Ix : Code → World → Prop) (k : Nat) (S : List Nat) (W : World) : Exit → Act → World → Prop
  | .normal, _, W' => (∃ S', I (k + 1) S' W' ∧ ∀ b ∈ S', b ∈ S ∨ W.heap.size ≤ b) ∧ Only S W W'
  | .ret, _, W' => Ix .ret W' ∧ Only S W W'
  | .exit id, _, W' => Ix (.exit id) W' ∧ Only S W W'
  | .goto t, _, W' => Ix (.goto t) W' ∧ Only S W W'
  | .panic _, _, _ => False
  | .outgrown, _, _ => False

theorem calls_marks {f : FuncId} {fn : Func} {c : Code} {args : Array Value} {w : World} {R : Ending → World → Prop}
    (hf : P.funcs[f]? = some fn) (hb : fn.body = some c)
    (h : c.wp P (bodyPostM Fence.wide 9 P fn R) { tmps := args ++ Array.replicate (fn.ntmps - args.size) undef, defers := [] } w) : Calls P f args w R :=
  (callsIn_wide (n := 9)).1 (callsIn_of_wp_marks hf hb trivial (wpIn_wide.2 h) rfl)

theorem wp_rangeFunc_seqs {g : Operand} {ps : Array Tmp} {assign body : Code} {Q : Exit → Act → World → Prop} {a : Act} {w : World} {gf : Nat} {lb : Array Value} {vs : List (Array Value)} {prot : List Nat}
    (hg : a.eval g = .func (.func gf) #[] lb) (eg : ∀ args w, (callFunc gf args).run P w = .ok (.enter gf args) w) (hseq : Seqs P gf lb vs prot w) (hps : ∀ v ∈ vs, v.size = ps.size)
    (S0 : List Nat) (hS0 : ∀ b ∈ S0, b < w.heap.size) (hprot : ∀ b ∈ prot, b ∉ S0)
    (I : Nat → List Nat → World → Prop) (Ix : Code → World → Prop) (hI : ∀ k S W1 W2, I k S W1 → KeepC w.heap.size W1 W2 → I k S W2) (hIx : ∀ c W1 W2, Ix c W1 → KeepC w.heap.size W1 W2 → Ix c W2)
    (h0 : I 0 S0 w) (a₁ : Nat → Act)
    (hassign : ∀ (l k : Nat) (v : Array Value) (W : World) (K : Act → World → Prop), vs[k]? = some v → K (a₁ k) W →
      assign.wpIn (Fence.wide.inRound l) 8 P (Exit.then K (fun _ _ _ => False)) { tmps := (ps.zip v).foldl (fun t (p, v) => t.setIfInBounds p v) a.tmps, defers := [] } W)
    (hbody : ∀ (l k : Nat) (v : Array Value) (S : List Nat) (W : World), vs[k]? = some v → I k S W → body.wpIn (Fence.wide.inRound l) 8 P (seqPost I Ix k S W) (a₁ k) W)
    (hdone : ∀ (D : Nat) (S : List Nat) (W : World), w.heap.size ≤ D → I vs.length S W → W.heap[D]? = some (.deferred (some [])) → Q .normal { a with defers := { target := .collected D, args := #[] } :: a.defers } W)
    (hstop : ∀ (D : Nat) (c : Code) (W : World), w.heap.size ≤ D → Ix c W → W.heap[D]? = some (.deferred (some [])) → c.wp P Q { a with defers := { target := .collected D, args := #[] } :: a.defers } W) :
    (Code.rangeFunc g ps assign body).wp P Q a w := by
  refine (wpIn_wide (n := 9)).1 (wpIn_rangeFunc ?_)
  intro fn hfn
  obtain ⟨rec, hrec⟩ : ∃ rec : LoopState → Option Code → Loop, rec = fun st pe => { state := st, pending := pe, fn, tmps := a.tmps, params := ps, assign, body, defers := w.heap.size } := ⟨_, rfl⟩
  obtain ⟨W1, hW1⟩ : ∃ W1, (w.alloc (.deferred (some []))).alloc (.loop (rec .ready none)) = W1 := ⟨_, rfl⟩
  have hL1 : W1.heap[w.heap.size + 1]? = some (.loop (rec .ready none)) := by
    rw [← hW1]; have := World.alloc_heap_new (w.alloc (.deferred (some []))) (.loop (rec .ready none)); rwa [World.size_alloc] at this
  have hK1 : W1.heap[w.heap.size]? = some (.deferred (some [])) := by
    rw [← hW1]; exact (Below.heap_alloc _ _ _ (by simp)).trans (World.alloc_heap_new w _)
  have hO1 : Only [] w W1 := by rw [← hW1]; exact ((Only.refl [] w).alloc _).alloc _
  have hs1 : W1.heap.size = w.heap.size + 2 := by rw [← hW1]; simp
  refine ⟨w.heap.size + 1, [{ target := .collected w.heap.size, args := #[] }], W1, { target := .fn (.func gf) lb, args := #[.func (.yield (w.heap.size + 1)) #[] #[]] }, W1, gf,
    #[.func (.yield (w.heap.size + 1)) #[] #[]] ++ lb, W1, ?_, ?_, fun _ _ => trivial, ?_, fun _ => by omega, ?_⟩
  · rw [← hW1, hrec]; exact run_enterLoop_outer _ _ _ _ _
  · simp only [resolve, hg]
    simp [go_sem]
  · simp [invoke, go_sem, eg]
  · refine callsIn_wide.2 ((hseq (w.heap.size + 1)
      (fun k S W => I k S W ∧ w.heap.size ∉ S ∧ w.heap.size + 1 ∉ S ∧ w.heap.size + 2 ≤ W.heap.size ∧ W.heap[w.heap.size + 1]? = some (.loop (rec .ready none)) ∧ W.heap[w.heap.size]? = some (.deferred (some [])))
      (fun W => ∃ c, Ix c W ∧ W.heap[w.heap.size + 1]? = some (.loop (rec .done (some c))) ∧ W.heap[w.heap.size]? = some (.deferred (some [])))
      W1 S0 (KeepC.of_only hO1) (by omega) (by omega) (fun b hb => by have := hS0 b hb; omega) hprot ?_ ?_ ⟨hI _ _ _ _ h0 (KeepC.of_only hO1), fun h => by have := hS0 _ h; omega, fun h => by have := hS0 _ h; omega, by omega, hL1, hK1⟩).mono ?_)
    · rintro k S A B ⟨i1, i2, i3, i4, i5, i6⟩ ho
      exact ⟨hI _ _ _ _ i1 (KeepC.of_only ho), i2, i3, Nat.le_trans i4 ho.size, (ho.block _ (by omega) (by simp)).trans i5, (ho.block _ (by omega) (by simp)).trans i6⟩
    · -- ONE ROUND
      rintro k S W v hv ⟨hi, hD, hl', hsz, hl, hk⟩
      have hy := run_yield (P := P) (args := v) hl (by rw [hrec]; exact hps v (List.mem_of_getElem? hv))
      rw [hrec] at hy
      refine ⟨fn, _, assign, body, hy, roundIn_of_wpIn (F := Fence.wide) hfn (hassign _ k v W _ hv ⟨_, run_beginRound hl (by rw [hrec]), ?_⟩)⟩
      have hl2 : (W.putObj (w.heap.size + 1) (.loop { rec .ready none with state := .busy })).heap[w.heap.size + 1]? = some (.loop { rec .ready none with state := .busy }) := World.putObj_heap_same (by omega)
      have hk2 : (W.putObj (w.heap.size + 1) (.loop { rec .ready none with state := .busy })).heap[w.heap.size]? = some (.deferred (some [])) := (World.putObj_heap_other (by omega)).trans hk
      have hc2 : KeepC w.heap.size W (W.putObj (w.heap.size + 1) (.loop { rec .ready none with state := .busy })) := KeepC.putObj hl rfl (by omega)
      refine wpIn_mono (hbody _ k v S _ hv (hI _ _ _ _ hi hc2)) ?_
      have fin : ∀ (jump : Option Code) (W3 : World), Only S (W.putObj (w.heap.size + 1) (.loop { rec .ready none with state := .busy })) W3 →
          (Instr.endRound (w.heap.size + 1) jump).run P W3 = .ok (.bool jump.isNone) (W3.putObj (w.heap.size + 1) (.loop (rec (if jump.isNone then .ready else .done) jump))) ∧
          W3.heap[w.heap.size + 1]? = some (.loop { rec .ready none with state := .busy }) ∧
          (W3.putObj (w.heap.size + 1) (.loop (rec (if jump.isNone then .ready else .done) jump))).heap[w.heap.size + 1]? = some (.loop (rec (if jump.isNone then .ready else .done) jump)) ∧
          (W3.putObj (w.heap.size + 1) (.loop (rec (if jump.isNone then .ready else .done) jump))).heap[w.heap.size]? = some (.deferred (some [])) ∧
          Only ((w.heap.size + 1) :: S) W (W3.putObj (w.heap.size + 1) (.loop (rec (if jump.isNone then .ready else .done) jump))) := fun jump W3 hk3 => by
        have hl3 := (hk3.block _ (by simp; omega) hl').trans hl2
        have hd3 := (hk3.block _ (by simp; omega) hD).trans hk2
        have := run_endRound (P := P) jump hl3
        rw [hrec] at this ⊢
        have hsz3 := hk3.size
        simp only [World.putObj_size] at hsz3
        refine ⟨this, by rw [hrec] at hl3; exact hl3, World.putObj_heap_same (Array.getElem?_eq_some_iff.1 hl3).1, (World.putObj_heap_other (by omega)).trans hd3, hk3.os, hk3.tape, hk3.output, by simp; omega, fun j hj hn => ?_⟩
        simp only [List.mem_cons, not_or] at hn
        rw [World.putObj_heap_other hn.1, hk3.block j (by simp; omega) hn.2, World.putObj_heap_other hn.1]
      rintro e a3 W3 hp
      cases e with
      | normal =>
        obtain ⟨⟨S', hi3, hS'⟩, hk3⟩ := hp
        obtain ⟨hr, hl3, hl4, hk4, ho4⟩ := fin none W3 hk3
        have hsz3 := hk3.size
        simp only [World.putObj_size] at hsz3 hS'
        refine ⟨_, _, hr, .inl ⟨rfl, ⟨S', ⟨hI _ _ _ _ hi3 (KeepC.putObj hl3 rfl (by omega)), ?_, ?_, by simp; omega, hl4, hk4⟩, hS'⟩, ho4⟩⟩
        · intro h; rcases hS' _ h with h | h; exact hD h; omega
        · intro h; rcases hS' _ h with h | h; exact hl' h; omega
      | ret =>
        obtain ⟨hi3, hk3⟩ := hp
        obtain ⟨hr, hl3, hl4, hk4, _⟩ := fin (some .ret) W3 hk3
        exact ⟨_, _, hr, .inr ⟨rfl, .ret, hIx _ _ _ hi3 (KeepC.putObj hl3 rfl (by omega)), hl4, hk4⟩⟩
      | exit id =>
        obtain ⟨hi3, hk3⟩ := hp
        obtain ⟨hr, hl3, hl4, hk4, _⟩ := fin (some (.exit id)) W3 hk3
        exact ⟨_, _, hr, .inr ⟨rfl, .exit id, hIx _ _ _ hi3 (KeepC.putObj hl3 rfl (by omega)), hl4, hk4⟩⟩
      | goto t =>
        obtain ⟨hi3, hk3⟩ := hp
        obtain ⟨hr, hl3, hl4, hk4, _⟩ := fin (some (.goto t)) W3 hk3
        exact ⟨_, _, hr, .inr ⟨rfl, .goto t, hIx _ _ _ hi3 (KeepC.putObj hl3 rfl (by omega)), hl4, hk4⟩⟩
      | panic ch => exact hp.elim
      | outgrown => exact hp.elim
    · -- BEHIND THE ITERATOR
      rintro e W2 ⟨⟨v, rfl⟩, (⟨S', hi, _, _, _, hl, hk⟩ | ⟨c, hi, hl, hk⟩)⟩
      · exact ⟨none, _, by have := run_endLoop (P := P) hl (by rw [hrec]; simp); rw [hrec] at this; exact this, hdone _ S' _ (Nat.le_refl _) (hI _ _ _ _ hi (KeepC.putObj hl rfl (by omega))) ((World.putObj_heap_other (by omega)).trans hk)⟩
      · exact ⟨some c, _, by have := run_endLoop (P := P) hl (by rw [hrec]; simp); rw [hrec] at this; exact this, wpIn_wide.2 (hstop _ c _ (Nat.le_refl _) (hIx _ _ _ hi (KeepC.putObj hl rfl (by omega))) ((World.putObj_heap_other (by omega)).trans hk))⟩
end

/-! ### A region that draws its order, in a round -/
section
variable {P : Program} {ops : Array Oper} {Q : Exit → Act → World → Prop} {n r : Nat}

theorem wpOpsIn_of_wpOps (hnd : ∀ (i : Nat) (o : Oper), ops[i]? = some o → ∀ c, o.op ≠ .defer c) (hQ : ¬ LetsOut Q) :
    ∀ (l : List Nat) (a : Act) (w : World), wpOps P ops Q l a w → wpOpsIn (Fence.wide.inRound r) n P ops Q l a w
  | [], a, w, h => h
  | i :: rest, a, w, h => by
    have ih := wpOpsIn_of_wpOps hnd hQ rest
    simp only [wpOps] at h
    simp only [wpOpsIn]
    cases ho : ops[i]? with
    | none => simp only [ho] at h; exact ih a w h
    | some o =>
      simp only [ho] at h
      by_cases hw : Region.wanted o (yielded ops a.tmps) = true
      · simp only [hw, if_true] at h ⊢
        rcases h with h | ⟨_, h⟩
        · refine ⟨fun _ _ => trivial, ?_⟩
          rw [Oper.semAt_plain _ _ _ (hnd i o ho)]
          unfold Oper.wp at h
          generalize (execOp a.eval o).run P w = x at h ⊢
          cases x with
          | ok nx w' =>
            cases nx <;> simp only [Oper.upon] at h <;> simp only [Oper.uponIn]
            case value v => exact ih _ _ h
            case skip => exact ih _ _ h
            case defer d => exact ih _ _ h
            case enter f args =>
              refine ⟨fun hd => by simp [Fence.inRound, Fence.wide] at hd, CallsIn.inRound r (callsIn_wide.2 (h.mono ?_))⟩
              rintro e w'' he
              cases e with
              | returned v => exact ih _ _ he
              | panicked chain => exact he
              | outgrown => exact he
            case row row args =>
              refine ⟨fun hd => by simp [Fence.inRound, Fence.wide] at hd, fun c cs _ => ?_⟩
              obtain ⟨v, w'', hv, hs⟩ := h c cs
              exact ⟨v, w'', ih _ _ hv, (stepsIn_wide (P := P)).2 hs⟩
          | halt x w' =>
            cases x <;> simp only [Oper.upon] at h <;> simp only [Oper.uponIn] <;> exact h
        · exact absurd h hQ
      · simp only [hw] at h ⊢
        exact ⟨fun _ _ => trivial, ih _ _ h⟩

theorem wpIn_round_any {id : Nat} {a : Act} {w : World} (hm : P.follows .mixedOrders = true) (hnd : (ops.all fun o => match o.op with | .defer _ => false | _ => true) = true) (hQ : ∀ a w, ¬ Q .outgrown a w)
    (h : wpAny P .any ops Q ops.size (Array.replicate ops.size false) a { w with drawn := w.drawn + 1 }) : (Code.region id ops true).wpIn (Fence.wide.inRound r) n P Q a w :=
  wpIn_region_draw fun t => by
    simp only [Region.schedule, hm, Bool.true_or, if_true]
    refine wpOpsIn_of_wpOps (fun i o ho c hc => ?_) (fun ⟨a, w, h⟩ => hQ a w h) _ _ _ (wpAny_sound ops.size t _ a _ h)
    have := Array.all_eq_true.1 hnd i (Array.getElem?_eq_some_iff.1 ho).1
    rw [(Array.getElem?_eq_some_iff.1 ho).2, hc] at this
    cases this

theorem wpIn_round_quiet {id : Nat} {a : Act} {w : World} {l : List Oper} (hm : P.follows .mixedOrders = true) (hB : Region.lexB .any l.toArray = true) (hnd : (l.toArray.all fun o => match o.op with | .defer _ => false | _ => true) = true) (hQ : ∀ a w, ¬ Q .outgrown a w)
    (h : wpQuiet P l.toArray (fun w' => ∃ n, w' = w.drewN n) (fun a' => ∀ w', (∃ n, w' = w.drewN n) → Q .normal a' w') l a) : (Code.region id l.toArray true).wpIn (Fence.wide.inRound r) n P Q a w := by
  simp only [Region.lexB, Bool.and_eq_true] at hB
  refine wpIn_round_any hm hnd hQ (wpAny_of_quiet (C := fun w' => ∃ n, w' = w.drewN n) (Q := fun a' => ∀ w', (∃ n, w' = w.drewN n) → Q .normal a' w') (fun _ w' hw' h => h w' hw') _ _ _ _ ⟨1, rfl⟩ ?_)
  have := wpAnyQ_lex (C := fun w' => ∃ n, w' = w.drewN n) (md := .any) hB.1 l.toArray.toList 0 (Array.replicate l.toArray.size false) a (by simp) (by simpa using hB.2) (by simpa using h)
  simpa using this
end
end Go.Kx
