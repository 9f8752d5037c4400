/- The types of expressions: plain law. -/
import Derived.Test.YtjhpckeoackblaaDoorExpr
import Derived.Test.YtjhpckeoackblaaDoorCopyT
namespace Go.Proofs.YtjhpckeoackblaaDoor
open Go.RowKit Go.Kx
open Go.Val (Tt okK)
set_option maxRecDepth 100000
/-- what names are -/
structure Nm where
  vars : List (ByteArray × ByteArray × Tt)
  ports : List (ByteArray × Tt)
  bag : Bool
  of : List (ByteArray × ByteArray × Tt)
/-- all types right -/
structure Nm.ok (nm : Nm) : Prop where
  vars : ∀ v ∈ nm.vars, v.2.2.ok 3 = true
  ports : ∀ v ∈ nm.ports, v.2.ok 3 = true
  of : ∀ v ∈ nm.of, v.2.2.ok 3 = true
def _root_.Go.Val.Tt.k : Tt → Int | .mk k _ => k
def noT : Tt := .mk 0 []
def inT : Tt := .mk 0 []
def boT : Tt := .mk 1 []
def syT : Tt := .mk 2 []
def varK (nm : Nm) (s : ByteArray) : Tt × Int := match nm.vars.find? (fun v => decide (v.2.1 = s)) with | some v => (v.2.2, 0) | none => (noT, 10)
def ofK (nm : Nm) (p s : ByteArray) : Tt × Int := match nm.of.find? (fun v => decide (v.1 = p) && decide (v.2.1 = s)) with | some v => (v.2.2, 0) | none => (noT, 10)
def portK (nm : Nm) (s : ByteArray) : Option Tt := if nm.bag = true then (nm.ports.find? (fun v => decide (v.1 = s))).map (·.2) else none
def ofPortK (nm : Nm) (op : Int) (s : ByteArray) (ts : List Tt) : Tt × Int :=
  match portK nm s with
  | none => (noT, 10)
  | some t => if op = 7 then (inT, 0) else if op = 8 then (boT, 0) else if op = 9 then (if t.k = 0 then (inT, 0) else (noT, 12)) else (if t.same (ts.headD noT) = true then (t, 0) else (noT, 12))
def tupleK (ts : List Tt) : Tt × Int := if (Tt.mk 3 ts).ok 3 = true then (.mk 3 ts, 0) else (noT, 7)
def itemK (n : Int) (t : Tt) : Tt × Int := if t.k = 3 then (match t.l[n.toNat]? with | some x => (x, 0) | none => (noT, 12)) else (noT, 12)
def kindsB (ts : List Tt) (want : List Int) : Bool := decide (ts.map Go.Val.Tt.k = want)
def signK (op : Int) (ts : List Tt) : Tt × Int :=
  if op = 13 then (if kindsB ts [0] = true then (inT, 0) else (noT, 12))
  else if op = 14 then (if kindsB ts [1] = true then (boT, 0) else (noT, 12))
  else if op = 15 ∨ op = 16 ∨ op = 17 ∨ op = 18 ∨ op = 19 then (if kindsB ts [0, 0] = true then (inT, 0) else (noT, 12))
  else if op = 20 ∨ op = 21 ∨ op = 22 then (if (ts.getD 0 noT).same (ts.getD 1 noT) = true then (boT, 0) else (noT, 12))
  else if op = 23 ∨ op = 24 then (if kindsB ts [1, 1] = true then (boT, 0) else (noT, 12))
  else (if (ts.getD 0 noT).k = 1 ∧ (ts.getD 1 noT).same (ts.getD 2 noT) = true then (ts.getD 1 noT, 0) else (noT, 12))
def leafK (nm : Nm) (op n : Int) (s u : ByteArray) (ts : List Tt) : Tt × Int :=
  if op = 0 then (inT, 0)
  else if op = 1 ∨ op = 2 then (boT, 0)
  else if op = 3 then (syT, 0)
  else if op = 4 then varK nm s
  else if op = 5 then ofK nm s u
  else if op = 11 then (if nm.bag = true then (.mk 3 [inT, inT], 0) else (noT, 10))
  else if op = 7 ∨ op = 8 ∨ op = 9 ∨ op = 10 then ofPortK nm op s ts
  else if op = 6 then tupleK ts
  else if op = 12 then itemK n (ts.headD noT)
  else signK op ts
/-- the first error -/
def errK : List (Tt × Int) → Option Int
  | [] => none
  | r :: rs => if r.2 = 0 then errK rs else some r.2
def Tr.kind (nm : Nm) : Tr → Tt × Int
  | .mk op n s u args => match errK (args.map (Tr.kind nm)) with | some e => (noT, e) | none => leafK nm op n s u ((args.map (Tr.kind nm)).map (·.1))
theorem Tr.kind_mk (nm : Nm) (op n : Int) (s u : ByteArray) (args : List Tr) : (Tr.mk op n s u args).kind nm = match errK (args.map (Tr.kind nm)) with | some e => (noT, e) | none => leafK nm op n s u ((args.map (Tr.kind nm)).map (·.1)) := by rw [Tr.kind]
theorem errK_app : ∀ (l m : List (Tt × Int)), errK l = none → errK (l ++ m) = errK m
  | [], m, _ => rfl
  | r :: rs, m, h => by
    rw [errK] at h
    by_cases h0 : r.2 = 0
    · rw [if_pos h0] at h
      rw [List.cons_append, errK, if_pos h0]
      exact errK_app rs m h
    · rw [if_neg h0] at h; cases h
/-! ### right types -/
theorem ok_mono : ∀ (t : Tt) (r r' : Nat), r ≤ r' → t.ok r = true → t.ok r' = true := by
  refine Go.Val.Tt.ind (fun t ih => ?_)
  intro r r' hr h
  obtain ⟨k, l⟩ := t
  rw [Go.Val.Tt.ok_mk, Bool.and_eq_true] at h ⊢
  refine ⟨?_, List.all_eq_true.2 fun x hx => ih x (by simpa [Go.Val.Tt.l] using hx) (r - 1) (r' - 1) (by omega) (List.all_eq_true.1 h.2 x hx)⟩
  have h1 := h.1
  unfold okK at h1 ⊢
  split at h1
  · rename_i hk; rw [if_pos hk]; exact h1
  · rename_i hk
    rw [if_neg hk]
    split at h1
    · rename_i hk3
      rw [if_pos hk3]
      simp at h1 ⊢
      omega
    · cases h1
theorem ok_noT : noT.ok 3 = true := by simp [noT, Go.Val.Tt.ok_mk, okK]
theorem ok_boT : boT.ok 3 = true := by simp [boT, Go.Val.Tt.ok_mk, okK]
theorem ok_syT : syT.ok 3 = true := by simp [syT, Go.Val.Tt.ok_mk, okK]
theorem ok_inin : (Tt.mk 3 [inT, inT]).ok 3 = true := by simp [inT, Go.Val.Tt.ok_mk, okK]
theorem ok_item {t x : Tt} {n : Nat} (h : t.ok 3 = true) (hx : t.l[n]? = some x) : x.ok 3 = true := by
  obtain ⟨k, l⟩ := t
  exact ok_mono x 2 3 (by omega) ((ok_sub h).2 x (List.mem_of_getElem? hx))
theorem ok_head {ts : List Tt} (h : ∀ a ∈ ts, a.ok 3 = true) : (ts.headD noT).ok 3 = true := by
  cases ts with
  | nil => exact ok_noT
  | cons a l => exact h a (by simp)
theorem ok_getD {ts : List Tt} (h : ∀ a ∈ ts, a.ok 3 = true) (i : Nat) : (ts.getD i noT).ok 3 = true := by
  rw [List.getD_eq_getElem?_getD]
  cases hi : ts[i]? with
  | none => exact ok_noT
  | some a => exact h a (List.mem_of_getElem? hi)
theorem leaf_ok {nm : Nm} (hn : nm.ok) {op n : Int} {s u : ByteArray} {ts : List Tt} (h : ∀ a ∈ ts, a.ok 3 = true) : (leafK nm op n s u ts).1.ok 3 = true := by
  unfold leafK
  split; exact ok_noT
  split; exact ok_boT
  split; exact ok_syT
  split
  · unfold varK
    split
    · rename_i v hv; exact hn.vars v (List.mem_of_find?_eq_some hv)
    · exact ok_noT
  split
  · unfold ofK
    split
    · rename_i v hv; exact hn.of v (List.mem_of_find?_eq_some hv)
    · exact ok_noT
  split
  · split; exact ok_inin; exact ok_noT
  split
  · unfold ofPortK
    split
    · exact ok_noT
    · rename_i t ht
      have htk : t.ok 3 = true := by
        unfold portK at ht
        split at ht
        · obtain ⟨v, hv, rfl⟩ := Option.map_eq_some_iff.1 ht
          exact hn.ports v (List.mem_of_find?_eq_some hv)
        · cases ht
      split; exact ok_noT
      split; exact ok_boT
      split
      · split; exact ok_noT; exact ok_noT
      · split; exact htk; exact ok_noT
  split
  · unfold tupleK; split; assumption; exact ok_noT
  split
  · unfold itemK
    split
    · split
      · rename_i x hx; exact ok_item (ok_head h) hx
      · exact ok_noT
    · exact ok_noT
  · unfold signK
    split; (split; exact ok_noT; exact ok_noT)
    split; (split; exact ok_boT; exact ok_noT)
    split; (split; exact ok_noT; exact ok_noT)
    split; (split; exact ok_boT; exact ok_noT)
    split; (split; exact ok_boT; exact ok_noT)
    split; exact ok_getD h 1; exact ok_noT
theorem kind_ok {nm : Nm} (hn : nm.ok) : ∀ t : Tr, (t.kind nm).1.ok 3 = true := by
  refine Tr.ind (fun t ih => ?_)
  obtain ⟨op, n, s, u, args⟩ := t
  rw [Tr.kind_mk]
  split
  · exact ok_noT
  · refine leaf_ok hn (fun a ha => ?_)
    obtain ⟨r, hr, rfl⟩ := List.mem_map.1 ha
    obtain ⟨x, hx, rfl⟩ := List.mem_map.1 hr
    exact ih x (by simpa [Tr.args] using hx)
/-! ### how deep -/
def mxN (l : List Nat) : Nat := l.foldl max 0
theorem mxN_from : ∀ (l : List Nat) (a m : Nat), l.foldl max a ≤ m ↔ a ≤ m ∧ ∀ x ∈ l, x ≤ m
  | [], a, m => by simp
  | x :: l, a, m => by
    rw [List.foldl_cons, mxN_from l]
    simp only [List.mem_cons]
    constructor
    · rintro ⟨h1, h2⟩
      exact ⟨by omega, fun y hy => by rcases hy with rfl | hy; omega; exact h2 y hy⟩
    · rintro ⟨h1, h2⟩
      exact ⟨by have := h2 x (.inl rfl); omega, fun y hy => h2 y (.inr hy)⟩
theorem mxN_le (l : List Nat) (m : Nat) : mxN l ≤ m ↔ ∀ x ∈ l, x ≤ m := by unfold mxN; rw [mxN_from]; simp
def _root_.Go.Val.Tt.dp : Tt → Nat
  | .mk k l => if k = 3 then mxN (l.map Go.Val.Tt.dp) + 1 else 0
theorem dp_mk (k : Int) (l : List Tt) : (Tt.mk k l).dp = if k = 3 then mxN (l.map Go.Val.Tt.dp) + 1 else 0 := by rw [Go.Val.Tt.dp]
theorem dp_ok : ∀ (t : Tt) (r r' : Nat), t.ok r' = true → (t.ok r = true ↔ t.dp ≤ r) := by
  refine Go.Val.Tt.ind (fun t ih => ?_)
  intro r r' h
  obtain ⟨k, l⟩ := t
  rw [Go.Val.Tt.ok_mk, Bool.and_eq_true] at h
  rw [Go.Val.Tt.ok_mk, Bool.and_eq_true, dp_mk]
  obtain ⟨h1, h2⟩ := h
  have h2' := List.all_eq_true.1 h2
  by_cases hk : k = 3
  · subst hk
    rw [if_pos rfl]
    unfold okK at h1 ⊢
    rw [if_neg (by omega), if_pos rfl] at h1 ⊢
    simp at h1
    rw [List.all_eq_true]
    constructor
    · rintro ⟨h3, h4⟩
      simp at h3
      have : mxN (l.map Go.Val.Tt.dp) ≤ r - 1 := (mxN_le _ _).2 fun x hx => by
        obtain ⟨a, ha, rfl⟩ := List.mem_map.1 hx
        exact (ih a (by simpa [Go.Val.Tt.l] using ha) (r - 1) _ (h2' a ha)).1 (h4 a ha)
      omega
    · intro h3
      refine ⟨by simp; omega, fun a ha => (ih a (by simpa [Go.Val.Tt.l] using ha) (r - 1) _ (h2' a ha)).2 ?_⟩
      have := (mxN_le (l.map Go.Val.Tt.dp) (r - 1)).1 (by omega) _ (List.mem_map.2 ⟨a, ha, rfl⟩)
      exact this
  · rw [if_neg hk]
    unfold okK at h1 ⊢
    split at h1
    · rename_i hk2
      rw [if_pos hk2]
      simp at h1
      subst h1
      simp
    · first | cases h1 | (rw [if_neg hk] at h1; cases h1)
theorem tuple_dp {ts : List Tt} (h : ∀ a ∈ ts, a.ok 3 = true) (h1 : 1 ≤ ts.length) (h4 : ts.length ≤ 4) : (Tt.mk 3 ts).ok 3 = true ↔ (Tt.mk 3 ts).dp ≤ 3 := by
  refine dp_ok _ 3 4 ?_
  rw [Go.Val.Tt.ok_mk, Bool.and_eq_true]
  refine ⟨?_, List.all_eq_true.2 fun a ha => h a ha⟩
  unfold okK
  rw [if_neg (by omega), if_pos rfl]
  simp
  omega
/-! ### more names -/
def Nm.more (a b : Nm) : Nm := ⟨a.vars ++ b.vars, a.ports ++ b.ports, a.bag || b.bag, a.of ++ b.of⟩
end Go.Proofs.YtjhpckeoackblaaDoor
