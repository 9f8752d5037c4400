/- The document's kind. -/
import Derived.Test.YtjhpckeoackblaaDoorType
import Derived.Test.YtjhpckeoackblaaDoorFactsG
namespace Go.Proofs.YtjhpckeoackblaaDoor
open Go.RowKit Go.Kx
open Go.Val (Tt)
set_option maxRecDepth 100000
/-- the flags -/
def intsB (ts : List Tt) : Bool := ts.all fun t => t.k == 0
def boolsB (ts : List Tt) : Bool := ts.all fun t => t.k == 1
def sameB (ts : List Tt) : Bool := ts.all fun t => t.same (ts.headD noT)
theorem intsB_snoc (ts : List Tt) (t : Tt) : intsB (ts ++ [t]) = (intsB ts && (t.k == 0)) := by simp [intsB]
theorem boolsB_snoc (ts : List Tt) (t : Tt) : boolsB (ts ++ [t]) = (boolsB ts && (t.k == 1)) := by simp [boolsB]
theorem sameB_snoc (ts : List Tt) (t : Tt) : sameB (ts ++ [t]) = (sameB ts && t.same ((ts ++ [t]).headD noT)) := by
  cases ts with
  | nil => simp [sameB]
  | cons a l => simp [sameB, Bool.and_assoc]
/-- what is shown of kind, of an expression -/
def KindAt (B0 : Nat) (A1 : Option Addr) (c1 : Nat) (vars : List Vr) (A2 : Option Addr) (c2 : Nat) (ports : List Pr) (bag : Bool) (A3 : Option Addr) (c3 : Nat) (of : List Vr) (e : Ex) : Prop :=
  ∀ w : World, B0 ≤ w.heap.size → Lies w e → e.tr.right = true → LiesN w A1 vars A2 ports A3 of →
    Calls Tryd.prog 22 #[e.val, .agg #[.slice A1 vars.length c1, .slice A2 ports.length c2, .bool bag, .slice A3 of.length c3]] w fun r w' => RK B0 w (e.tr.kind ⟨vars.map Vr.tr, ports.map Pr.tr, bag, of.map Vr.tr⟩) r w'
/-- the operands of the round, as far as they are known; g: the block that has been laid -/
def F9 (B0 : Nat) (wq : World) (p : Tt × Int) (va vb vc vd ve vf : Value) (g : Option Nat) (i : Nat) (v : Value) (w : World) : Prop :=
  match i with
  | 0 => v = va
  | 1 => v = vb
  | 2 => v = vc
  | 3 => v = vd
  | 4 => v = ve
  | 5 => v = vf
  | 6 => ∃ yk yA ycap yl, v = .tuple #[.agg #[.int .i64 yk, .slice yA (List.length yl) ycap], .int .i64 p.2] ∧ TK B0 wq.heap.size w p.1 (.mk yk yA ycap yl) ∧ ∀ tb, g = some tb → tb ∉ (Tx.mk yk yA ycap yl).bks
  | 7 => ∃ yk yA ycap yl, v = .tuple #[.agg #[.int .i64 yk, .slice yA (List.length yl) ycap], .int .i64 p.2] ∧ TK B0 wq.heap.size w p.1 (.mk yk yA ycap yl) ∧ ∀ tb, g = some tb → tb ∉ (Tx.mk yk yA ycap yl).bks
  | 8 => ∃ yk yA ycap yl, v = .agg #[.int .i64 yk, .slice yA (List.length yl) ycap] ∧ TK B0 wq.heap.size w p.1 (.mk yk yA ycap yl) ∧ ∀ tb, g = some tb → tb ∉ (Tx.mk yk yA ycap yl).bks
  | 9 => v = .int .i64 p.2
  | 10 => ∃ tb, g = some tb ∧ v = .pointer (some ⟨tb, 0, none⟩)
  | 11 => ∃ tb yk yA ycap yl, g = some tb ∧ Blk w tb 34 #[.int .i64 yk, .slice yA (List.length yl) ycap] ∧ TK B0 wq.heap.size w p.1 (.mk yk yA ycap yl) ∧ tb ∉ (Tx.mk yk yA ycap yl).bks
  | _ => True
def V9 (wq : World) (g : Option Nat) (w : World) : Prop := ∀ tb, g = some tb → wq.heap.size ≤ tb ∧ ∃ c0 c1, Blk w tb 34 #[c0, c1]
theorem V9.keep {wq : World} {g : Option Nat} {w w' : World} (h : V9 wq g w) (o : Only [] w w') : V9 wq g w' := fun tb hg => by
  obtain ⟨h1, c0, c1, h2⟩ := h tb hg
  exact ⟨h1, c0, c1, o.blk h2 (by simp)⟩
theorem F9.keep {B0 : Nat} {wq : World} {p : Tt × Int} {va vb vc vd ve vf : Value} {g : Option Nat} {i : Nat} {v : Value} {w w' : World} (o : Only [] w w') (h : F9 B0 wq p va vb vc vd ve vf g i v w) : F9 B0 wq p va vb vc vd ve vf g i v w' := by
  unfold F9 at h ⊢
  split at h <;> first | exact h | (obtain ⟨yk, yA, ycap, yl, h1, h2, h3⟩ := h; exact ⟨yk, yA, ycap, yl, h1, h2.keep o, h3⟩) | (obtain ⟨tb, yk, yA, ycap, yl, h1, h2, h3, h4⟩ := h; exact ⟨tb, yk, yA, ycap, yl, h1, o.blk h2 (by simp), h3.keep o, h4⟩)
theorem F9.laid {B0 : Nat} {wq : World} {p : Tt × Int} {va vb vc vd ve vf : Value} {g : Option Nat} {i : Nat} {v : Value} {w w' : World} (hi : i ≠ 10) (hi' : i ≠ 11) (o : Only [] w w') (h : F9 B0 wq p va vb vc vd ve vf g i v w) : F9 B0 wq p va vb vc vd ve vf (some w.heap.size) i v w' := by
  unfold F9 at h ⊢
  split at h <;> first | exact absurd rfl hi | exact absurd rfl hi' | exact h | (obtain ⟨yk, yA, ycap, yl, h1, h2, h3⟩ := h; exact ⟨yk, yA, ycap, yl, h1, h2.keep o, fun tb hg hm => by injection hg with hg; subst hg; have := h2.lies.lt _ hm; omega⟩)
theorem F9.set {B0 : Nat} {wq : World} {p : Tt × Int} {va vb vc vd ve vf : Value} {g : Option Nat} {tb i : Nat} {v : Value} {w w' : World} (hg : g = some tb) (hi : i ≠ 11) (o : Only [tb] w w') (h : F9 B0 wq p va vb vc vd ve vf g i v w) : F9 B0 wq p va vb vc vd ve vf g i v w' := by
  unfold F9 at h ⊢
  split at h <;> first | exact absurd rfl hi | exact h | (obtain ⟨yk, yA, ycap, yl, h1, h2, h3⟩ := h; exact ⟨yk, yA, ycap, yl, h1, ⟨h2.tr, h2.lies.only o (fun x hx hm => by simp at hm; subst hm; exact h3 _ hg hx), h2.off⟩, h3⟩)
/-- what is written is new -/
def RelF (n : Nat) (a b : World) : Prop := ∃ S : List Nat, (∀ x ∈ S, n ≤ x) ∧ Only S a b
theorem RelF.of {n : Nat} {a b : World} (o : Only [] a b) : RelF n a b := ⟨[], by simp, o⟩
theorem RelF.trans {n : Nat} {a b c : World} (h : RelF n a b) (k : RelF n b c) : RelF n a c := by
  obtain ⟨S, h1, h2⟩ := h
  obtain ⟨T, k1, k2⟩ := k
  refine ⟨S ++ T, fun x hx => ?_, (h2.mono (fun x hx => .inl (List.mem_append.2 (.inl hx)))).trans k2 (fun x hx => .inl (List.mem_append.2 (.inr hx)))⟩
  rcases List.mem_append.1 hx with h | h
  · exact h1 x h
  · exact k1 x h
theorem RelF.only {n : Nat} {a b : World} (h : RelF n a b) (hn : a.heap.size ≤ n) : Only [] a b := by
  obtain ⟨S, h1, h2⟩ := h
  exact (Only.refl [] a).trans h2 (fun x hx => .inr (Nat.le_trans hn (h1 x hx)))
theorem ar2_of {op n : Int} {nm sb : ByteArray} {len : Nat} (h : nodeB op n nm sb len = true) : (op = 13 ∨ op = 14 → len = 1) ∧ (15 ≤ op ∧ op ≤ 24 → len = 2) := by
  unfold nodeB at h
  have key : ∀ {b1 b2 b3 : Bool} {l m : Nat}, fB n nm sb len b1 b2 b3 l m = true → l ≤ len ∧ len ≤ m := fun h => by
    unfold fB at h
    simp at h
    exact ⟨h.1.2, h.2⟩
  split at h; (constructor <;> omega)
  split at h; (constructor <;> omega)
  split at h; (constructor <;> omega)
  split at h; (constructor <;> omega)
  split at h; (constructor <;> omega)
  split at h; (constructor <;> omega)
  split at h; (constructor <;> omega)
  split at h; (constructor <;> omega)
  split at h; (have := key h; constructor <;> omega)
  split at h; (have := key h; constructor <;> omega)
  split at h; (have := key h; constructor <;> omega)
  cases h
end Go.Proofs.YtjhpckeoackblaaDoor
