/- A range over a function: an iterator that hands out a known list, and a loop over it, by sets of blocks that the loop's body may write. -/
import Derived.Test.YtjhpckeoackblaaDoorWords
import Derived.RangeFuncNested
import Derived.RangeFuncBound
import Derived.RangeFuncCalls
import Derived.RangeFuncLeaves
import Derived.WalkKit
import Derived.OwnWalkIn
import Derived.TacticsInMore
import Derived.LoopNIn
import Derived.LoopIn
namespace Go.Kx
open Go.RowKit

/-- All cells that there were, and all blocks below B, are as they were. -/
structure KeepC (B : Nat) (W W' : World) : Prop where
  os : W'.os = W.os
  tape : W'.tape = W.tape
  output : W'.output = W.output
  size : W.heap.size ≤ W'.heap.size
  block : ∀ (k : Nat) (o : Obj), W.heap[k]? = some o → (k < B ∨ o.isCells = true) → W'.heap[k]? = some o

theorem KeepC.refl (B : Nat) (W : World) : KeepC B W W := ⟨rfl, rfl, rfl, Nat.le_refl _, fun _ _ h _ => h⟩
theorem KeepC.trans {B : Nat} {a b c : World} (h : KeepC B a b) (k : KeepC B b c) : KeepC B a c :=
  ⟨k.os.trans h.os, k.tape.trans h.tape, k.output.trans h.output, Nat.le_trans h.size k.size, fun i o hi ho => k.block i o (h.block i o hi ho) ho⟩
theorem KeepC.mono {B B' : Nat} {a b : World} (h : KeepC B a b) (hB : B' ≤ B) : KeepC B' a b :=
  ⟨h.os, h.tape, h.output, h.size, fun i o hi ho => h.block i o hi (ho.imp (fun x => Nat.lt_of_lt_of_le x hB) id)⟩
theorem KeepC.putObj {B : Nat} {W : World} {l : Nat} {o o' : Obj} (hl : W.heap[l]? = some o) (ho : o.isCells = false) (hB : B ≤ l) : KeepC B W (W.putObj l o') :=
  ⟨rfl, rfl, rfl, by simp, fun k x hk hx => by
    by_cases e : k = l
    · subst e
      rw [hl] at hk
      cases hk
      rcases hx with hx | hx
      · omega
      · rw [ho] at hx; cases hx
    · rw [World.putObj_heap_other e]; exact hk⟩
theorem KeepC.of_only {B : Nat} {W W' : World} (h : Only [] W W') : KeepC B W W' :=
  ⟨h.os, h.tape, h.output, h.size, fun k o hk _ => (h.block k (Array.getElem?_eq_some_iff.1 hk).1 (by simp)).trans hk⟩
theorem KeepC.blk {B : Nat} {W W' : World} (h : KeepC B W W') {g : Nat} {t : TypeId} {cs : Array Value} (hb : Blk W g t cs) : Blk W' g t cs := h.block g _ hb (.inr rfl)
theorem Only.keepC {B : Nat} {S : List Nat} {w W W' : World} (h : Only S w W) (k : KeepC B W W') (hB : w.heap.size ≤ B) : Only S w W' :=
  ⟨k.os.trans h.os, k.tape.trans h.tape, k.output.trans h.output, Nat.le_trans h.size k.size, fun i hi hn => by
    have h1 := h.block i hi hn
    have hlt : i < W.heap.size := Nat.lt_of_lt_of_le hi h.size
    obtain ⟨o, ho⟩ : ∃ o, W.heap[i]? = some o := ⟨_, Array.getElem?_eq_getElem hlt⟩
    rw [k.block i o ho (.inl (by omega)), ← ho, h1]⟩
theorem KeepC.cell {B : Nat} {W W' : World} (h : KeepC B W W') {p : Addr} {v : Value} (hp : W.cell? p = some v) : W'.cell? p = some v := by
  obtain ⟨o, ho, hc⟩ := cells_of_cell hp
  have e : W'.heap[p.block]? = W.heap[p.block]? := (h.block _ _ ho (.inr hc)).trans ho.symm
  exact (World.cell?_of_block e).trans hp

theorem enters {P : Program} {f : FuncId} {fn : Func} {c : Code} (hf : P.funcs[f]? = some fn) (hname : (fn.name == "runtime.NumGoroutine") = false) (hb : fn.body = some c) : ∀ args w, (callFunc f args).run P w = .ok (.enter f args) w := by
  intro args w
  have h1 : fn.name ≠ "runtime.NumGoroutine" := by simpa using hname
  simp [callFunc, hf, h1, hb]

theorem wpListIn_append_run {F : Fence} {n : Nat} {P : Program} {w w1 : World} {ops : Array Oper} {rest : List Oper} {o : Oper} {a : Act} {Q : Exit → Act → World → Prop} {v xv r : Value} {t1 t2 ty : TypeId}
    (hrun : (Builtin.append_ #[t1, t2] ty #[v, xv]).run P w = .ok r w1) (hg : o.guard = none) (s x : Operand)
    (hop : o.op = .call { callee := .builtin .append, args := #[s, x], argTypes := #[t1, t2] }) (hty : o.type = ty) (hs : a.eval s = v) (hx : a.eval x = xv)
    (hK : wpListIn F n P ops Q rest (a.put o.dst r) w1) : wpListIn F n P ops Q (o :: rest) a w := by
  refine wpListIn_plain hg fun K h => ?_
  subst hty
  unfold Oper.wpIn
  refine ⟨?_, ?_⟩
  · simp [Oper.about, hop, resolve, Target.leads, Sem.run_pure]
  · rw [Oper.semAt_plain F _ _ (by rw [hop]; intro c hc'; cases hc')]
    simp [execOp, hop, resolve, invoke, builtin, hs, hx, hrun, Result.andThen]
    exact h _ _ hK

section
variable {P : Program}

theorem calls_marks {f : FuncId} {fn : Func} {c : Code} {args : Array Value} {w : World} {R : Ending → World → Prop}
    (hf : P.funcs[f]? = some fn) (hb : fn.body = some c)
    (h : c.wp P (bodyPostM Fence.wide 9 P fn R) { tmps := args ++ Array.replicate (fn.ntmps - args.size) undef, defers := [] } w) : Calls P f args w R :=
  (callsIn_wide (n := 9)).1 (callsIn_of_wp_marks hf hb trivial (wpIn_wide.2 h) rfl)

end

/-! ### A region that draws its order, in a round -/
section
variable {P : Program} {ops : Array Oper} {Q : Exit → Act → World → Prop} {n r : Nat}

end
end Go.Kx
