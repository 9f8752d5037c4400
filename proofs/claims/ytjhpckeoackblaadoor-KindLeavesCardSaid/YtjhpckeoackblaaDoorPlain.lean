/- Values and types as trees; how they stand to each other: plain law. -/
import Derived.WalkKit
namespace Go.Val

inductive Vt where
  | mk (k n : Int) (s : List UInt8) (l : List Vt)
inductive Tt where
  | mk (k : Int) (l : List Tt)
instance : Inhabited Vt := ⟨.mk 0 0 [] []⟩
instance : Inhabited Tt := ⟨.mk 0 []⟩
def Vt.l : Vt → List Vt | .mk _ _ _ l => l
def Tt.l : Tt → List Tt | .mk _ l => l
theorem Vt.l_lt {e a : Vt} (h : a ∈ e.l) : SizeOf.sizeOf a < SizeOf.sizeOf e := by
  cases e
  have := List.sizeOf_lt_of_mem h
  simp [Vt.l] at this ⊢
  omega
theorem Tt.l_lt {e a : Tt} (h : a ∈ e.l) : SizeOf.sizeOf a < SizeOf.sizeOf e := by
  cases e
  have := List.sizeOf_lt_of_mem h
  simp [Tt.l] at this ⊢
  omega
theorem Vt.ind {p : Vt → Prop} (h : ∀ e, (∀ a ∈ e.l, p a) → p e) : ∀ e, p e := by
  intro e
  generalize hn : SizeOf.sizeOf e = n
  induction n using Nat.strongRecOn generalizing e with
  | ind n ih => exact h e (fun a ha => ih (SizeOf.sizeOf a) (hn ▸ Vt.l_lt ha) a rfl)
theorem Tt.ind {p : Tt → Prop} (h : ∀ e, (∀ a ∈ e.l, p a) → p e) : ∀ e, p e := by
  intro e
  generalize hn : SizeOf.sizeOf e = n
  induction n using Nat.strongRecOn generalizing e with
  | ind n ih => exact h e (fun a ha => ih (SizeOf.sizeOf a) (hn ▸ Tt.l_lt ha) a rfl)
/-! ### names -/
def letB (c : UInt8) : Bool := 97 ≤ c && c ≤ 122
def digB (c : UInt8) : Bool := 48 ≤ c && c ≤ 57
def nmAt (s : List UInt8) (k : Nat) : Bool := match s[k]? with | some c => letB c || (k != 0 && digB c) | none => true
/-- a name -/
def nameB (s : List UInt8) : Bool := decide (1 ≤ s.length) && decide (s.length ≤ 16) && (List.range s.length).all (nmAt s)
/-! ### right values, right types -/
def okN (k n : Int) (s : List UInt8) (m r : Nat) : Bool :=
  if k = 0 then s.length == 0 && m == 0
  else if k = 1 then (n == 0 || n == 1) && s.length == 0 && m == 0
  else if k = 2 then nameB s && n == 0 && m == 0
  else if k = 3 then n == 0 && s.length == 0 && decide (0 < r) && decide (1 ≤ m) && decide (m ≤ 4)
  else false
def okK (k : Int) (m r : Nat) : Bool :=
  if k = 0 ∨ k = 1 ∨ k = 2 then m == 0
  else if k = 3 then decide (0 < r) && decide (1 ≤ m) && decide (m ≤ 4)
  else false
def Vt.ok : Vt → Nat → Bool
  | .mk k n s l => fun r => okN k n s l.length r && (l.map Vt.ok).all (fun f => f (r - 1))
def Tt.ok : Tt → Nat → Bool
  | .mk k l => fun r => okK k l.length r && (l.map Tt.ok).all (fun f => f (r - 1))
theorem Vt.ok_mk (k n : Int) (s : List UInt8) (l : List Vt) (r : Nat) : (Vt.mk k n s l).ok r = (okN k n s l.length r && l.all (fun x => x.ok (r - 1))) := by
  rw [Vt.ok]
  simp only [List.all_map]
  rfl
theorem Tt.ok_mk (k : Int) (l : List Tt) (r : Nat) : (Tt.mk k l).ok r = (okK k l.length r && l.all (fun x => x.ok (r - 1))) := by
  rw [Tt.ok]
  simp only [List.all_map]
  rfl
/-- a value's type -/
def Vt.ty : Vt → Tt
  | .mk k _ _ l => .mk k (l.map Vt.ty)
/-! ### alike -/
def alikeF {α : Type} : List (α → Bool) → List α → Bool
  | [], [] => true
  | f :: fs, a :: us => f a && alikeF fs us
  | _, _ => false
def Vt.same : Vt → Vt → Bool
  | .mk k n s l => fun | .mk k2 n2 s2 l2 => decide (k = k2) && decide (n = n2) && decide (s = s2) && alikeF (l.map Vt.same) l2
def Tt.same : Tt → Tt → Bool
  | .mk k l => fun | .mk k2 l2 => decide (k = k2) && alikeF (l.map Tt.same) l2
theorem Vt.same_mk (k n k2 n2 : Int) (s s2 : List UInt8) (l l2 : List Vt) : (Vt.mk k n s l).same (.mk k2 n2 s2 l2) = (decide (k = k2) && decide (n = n2) && decide (s = s2) && alikeF (l.map Vt.same) l2) := by rw [Vt.same]
theorem Tt.same_mk (k k2 : Int) (l l2 : List Tt) : (Tt.mk k l).same (.mk k2 l2) = (decide (k = k2) && alikeF (l.map Tt.same) l2) := by rw [Tt.same]
theorem alikeF_iff {α : Type} {c : α → α → Bool} : ∀ {l m : List α}, (∀ a ∈ l, ∀ b, c a b = true ↔ a = b) → (alikeF (l.map c) m = true ↔ l = m)
  | [], [], _ => by simp [alikeF]
  | [], _ :: _, _ => by simp [alikeF]
  | _ :: _, [], _ => by simp [alikeF]
  | a :: l, b :: m, h => by
    rw [List.map_cons, alikeF, Bool.and_eq_true, h a (by simp) b, alikeF_iff (fun x hx => h x (by simp [hx]))]
    simp
theorem Vt.same_iff : ∀ a b : Vt, a.same b = true ↔ a = b := by
  refine Vt.ind (fun a ih => ?_)
  intro b
  obtain ⟨k, n, s, l⟩ := a
  obtain ⟨k2, n2, s2, l2⟩ := b
  rw [Vt.same_mk, Bool.and_eq_true, alikeF_iff (fun x hx => ih x (by simpa [Vt.l] using hx))]
  simp [and_assoc]
theorem Tt.same_iff : ∀ a b : Tt, a.same b = true ↔ a = b := by
  refine Tt.ind (fun a ih => ?_)
  intro b
  obtain ⟨k, l⟩ := a
  obtain ⟨k2, l2⟩ := b
  rw [Tt.same_mk, Bool.and_eq_true, alikeF_iff (fun x hx => ih x (by simpa [Tt.l] using hx))]
  simp
/-! ### how they stand to each other -/
end Go.Val
