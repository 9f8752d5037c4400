/- Regions that draw their order: one fact an operation, each shown once, whatever has come up before. -/
import Derived.Deep.RegionHeld
import Derived.Test.YtjhpckeoackblaaDoorWords
namespace Go.Kx
open Go

section
variable {P : Program} {ops : Array Oper} {Q : Exit → Act → World → Prop}

def dstAt (ops : Array Oper) (i : Nat) : Option Tmp := (ops[i]?).bind (·.dst)
/-- the frame in which each operation's slot holds what vals says -/
def putAll (ops : Array Oper) (a : Act) (vals : Nat → Value) : Nat → Act
  | 0 => a
  | n + 1 => (putAll ops a vals n).put (dstAt ops n) (vals n)
def dstsApart (ops : Array Oper) : Bool :=
  (List.range ops.size).all fun j => (List.range j).all fun i => match dstAt ops i with | none => true | some d => dstAt ops j != some d
theorem dstsApart_spec (h : dstsApart ops = true) {i j : Nat} (hij : i < j) (hj : j < ops.size) : ∀ d, dstAt ops i = some d → dstAt ops j ≠ some d := by
  intro d hd
  unfold dstsApart at h
  rw [List.all_eq_true] at h
  have h1 := h j (List.mem_range.2 hj)
  rw [List.all_eq_true] at h1
  have h2 := h1 i (List.mem_range.2 hij)
  rw [hd] at h2
  simpa using h2

theorem putAll_congr {a : Act} {u v : Nat → Value} : ∀ n, (∀ i, i < n → u i = v i) → putAll ops a u n = putAll ops a v n
  | 0, _ => rfl
  | n + 1, h => by
    unfold putAll
    rw [putAll_congr n (fun i hi => h i (by omega)), h n (by omega)]

def upd (vals : Nat → Value) (i : Nat) (v : Value) : Nat → Value := fun j => if j = i then v else vals j

theorem put_put (a : Act) (d : Option Tmp) (u v : Value) : (a.put d u).put d v = a.put d v := by
  cases d with
  | none => rfl
  | some d => simp [Act.put, Array.setIfInBounds_setIfInBounds]

theorem putAll_upd (h : dstsApart ops = true) {a : Act} {vals : Nat → Value} {i : Nat} {v : Value} : ∀ n, n ≤ ops.size → i < n →
    (putAll ops a vals n).put (dstAt ops i) v = putAll ops a (upd vals i v) n
  | 0, _, hi => by omega
  | n + 1, hn, hi => by
    by_cases e : i = n
    · subst e
      unfold putAll
      rw [put_put, putAll_congr (u := upd vals i v) (v := vals) i (fun j hj => by unfold upd; rw [if_neg (by omega)])]
      simp [upd]
    · have hin : i < n := by omega
      show ((putAll ops a vals n).put (dstAt ops n) (vals n)).put (dstAt ops i) v = (putAll ops a (upd vals i v) n).put (dstAt ops n) (upd vals i v n)
      rw [← putAll_upd h n (by omega) hin, Act.put_comm _ v _ (dstsApart_spec h hin (by omega))]
      simp [upd, Ne.symm e]

theorem put_self (a : Act) (d : Option Tmp) : a.put d (match d with | some t => a.tmps.getD t undef | none => undef) = a := by
  cases d with
  | none => rfl
  | some t =>
    unfold Act.put
    have : a.tmps.setIfInBounds t (a.tmps.getD t undef) = a.tmps := by
      apply Array.ext_getElem?
      intro i
      rw [Array.getElem?_setIfInBounds]
      split
      · rename_i e
        subst e
        split
        · rename_i hlt
          simp [hlt]
        · rename_i hlt
          simp [hlt]
      · rfl
    simp only
    rw [this]

theorem putAll_self (a : Act) : ∀ n, putAll ops a (fun j => match dstAt ops j with | some t => a.tmps.getD t undef | none => undef) n = a
  | 0 => rfl
  | n + 1 => by
    unfold putAll
    rw [putAll_self a n, put_self]

/-- every edge that binds leads back -/
def edgesBack (ops : Array Oper) : Bool := (List.range ops.size).all fun i => match ops[i]? with | none => true | some o => o.after.all fun e => !Region.binds .any e || decide (e.on < i)
theorem edgesBack_spec (h : edgesBack ops = true) {i : Nat} {o : Oper} (ho : ops[i]? = some o) : ∀ e ∈ o.after, Region.binds .any e = true → e.on < i := by
  intro e he hb
  unfold edgesBack at h
  rw [List.all_eq_true] at h
  have hi : i < ops.size := (Array.getElem?_eq_some_iff.1 ho).1
  have h1 := h i (List.mem_range.2 hi)
  rw [ho] at h1
  simp only at h1
  have h2 := Array.all_eq_true_iff_forall_mem.1 h1 e he
  simp [hb] at h2
  exact h2

def AllDo (D : Nat → Oper → Prop) : Nat → List Oper → Prop
  | _, [] => True
  | k, o :: rest => D k o ∧ AllDo D (k + 1) rest
theorem AllDo.at {D : Nat → Oper → Prop} : ∀ (l : List Oper) (k : Nat), AllDo D k l → ∀ i o, l[i]? = some o → D (k + i) o
  | [], _, _, i, o, h => by simp at h
  | x :: l, k, hD, 0, o, h => by simp at h; subst h; exact hD.1
  | x :: l, k, hD, i + 1, o, h => by
    have := AllDo.at l (k + 1) hD.2 i o (by simpa using h)
    have e : k + (i + 1) = k + 1 + i := by omega
    rw [e]; exact this

def unl (ops : Array Oper) (L : Array Bool) : Nat := ((List.range ops.size).filter fun i => !L.getD i true).length

theorem filter_lt_of {α : Type} {p q : α → Bool} {l : List α} (hpq : ∀ x ∈ l, q x = true → p x = true) {y : α} (hy : y ∈ l) (hp : p y = true) (hq : q y = false) : (l.filter q).length < (l.filter p).length := by
  induction l with
  | nil => cases hy
  | cons x l ih =>
    rcases List.mem_cons.1 hy with rfl | hy'
    · rw [List.filter_cons_of_neg (by simp [hq]), List.filter_cons_of_pos hp]
      have hle : (l.filter q).length ≤ (l.filter p).length := by
        clear ih hy
        induction l with
        | nil => simp
        | cons z l ih2 =>
          have ih3 := ih2 (fun x hx => hpq x (by simp at hx ⊢; rcases hx with h | h <;> simp [h]))
          by_cases hz : q z = true
          · have := hpq z (by simp) hz
            rw [List.filter_cons_of_pos hz, List.filter_cons_of_pos this]; simp; exact ih3
          · rw [List.filter_cons_of_neg hz]
            by_cases hz2 : p z = true
            · rw [List.filter_cons_of_pos hz2]; simp; omega
            · rw [List.filter_cons_of_neg hz2]; exact ih3
      simp; omega
    · have ih' := ih (fun x hx => hpq x (List.mem_cons_of_mem _ hx)) hy'
      by_cases hx : q x = true
      · rw [List.filter_cons_of_pos hx, List.filter_cons_of_pos (hpq x (by simp) hx)]; simp; exact ih'
      · rw [List.filter_cons_of_neg hx]
        by_cases hx2 : p x = true
        · rw [List.filter_cons_of_pos hx2]; simp; omega
        · rw [List.filter_cons_of_neg hx2]; exact ih'

theorem unl_set {L : Array Bool} {i : Nat} (hi : i < ops.size) (hL : L.size = ops.size) (h : L.getD i true = false) : unl ops (L.setIfInBounds i true) < unl ops L := by
  unfold unl
  refine filter_lt_of (y := i) (fun j _ hj => ?_) (List.mem_range.2 hi) (by simp [h]) (by simp [hL, hi])
  by_cases e : i = j
  · subst e; simp [hL, hi] at hj
  · rw [getD_set_ne true e] at hj; exact hj

theorem unl_le (ops : Array Oper) (L : Array Bool) : unl ops L ≤ ops.size := by
  unfold unl
  refine Nat.le_trans (List.length_filter_le _ _) (by simp)

/-- the facts of the operations that come ahead -/
def Pre (F : Nat → Value → World → Prop) (vals : Nat → Value) (w : World) : List Edge → Prop
  | [] => True
  | e :: es => (Region.binds .any e = true → F e.on (vals e.on) w) ∧ Pre F vals w es
theorem Pre.of {F : Nat → Value → World → Prop} {vals : Nat → Value} {w : World} : ∀ (l : List Edge), (∀ e ∈ l, Region.binds .any e = true → F e.on (vals e.on) w) → Pre F vals w l
  | [], _ => trivial
  | e :: es, h => ⟨h e (by simp), Pre.of es (fun x hx => h x (by simp [hx]))⟩

/-- an operation is carried out, or passed over -/
def RunsOp (P : Program) (ops : Array Oper) (Q : Exit → Act → World → Prop) (o : Oper) (K : Act → World → Prop) (w : World) (a : Act) : Prop :=
  if Region.wanted o (yielded ops a.tmps) = true then Oper.wp P o a w K Q else K (a.put o.dst undef) w
theorem AllDo.mono {D E : Nat → Oper → Prop} (h : ∀ i o, D i o → E i o) : ∀ (l : List Oper) (k : Nat), AllDo D k l → AllDo E k l
  | [], _, _ => trivial
  | _ :: l, k, hD => ⟨h _ _ hD.1, AllDo.mono h l (k + 1) hD.2⟩

end
end Go.Kx
