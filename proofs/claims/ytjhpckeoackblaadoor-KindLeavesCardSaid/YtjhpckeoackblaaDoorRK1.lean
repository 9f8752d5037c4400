/- The document's kind: laws of the leaves. -/
import Derived.Test.YtjhpckeoackblaaDoorRK0
namespace Go.Proofs.YtjhpckeoackblaaDoor
open Go.RowKit Go.Kx
open Go.Val (Tt)
set_option maxRecDepth 100000
def optV (o : Option Vr) : Tt × Int := match o with | some v => (v.t.tr, 0) | none => (noT, 10)
theorem varK_fd (vars : List Vr) (ports : List Pr) (bag : Bool) (of : List Vr) (name : ByteArray) : varK ⟨vars.map Vr.tr, ports.map Pr.tr, bag, of.map Vr.tr⟩ name = optV (vars.find? (fun v => decide (v.s = name))) := by
  unfold varK
  rw [List.find?_map, show ((fun v : ByteArray × ByteArray × Tt => decide (v.2.1 = name)) ∘ Vr.tr) = fun v => decide (v.s = name) from funext fun v => by cases v; rfl]
  cases vars.find? (fun v => decide (v.s = name)) with
  | none => rfl
  | some v => cases v; rfl
theorem ofK_fd (vars : List Vr) (ports : List Pr) (bag : Bool) (of : List Vr) (part name : ByteArray) : ofK ⟨vars.map Vr.tr, ports.map Pr.tr, bag, of.map Vr.tr⟩ part name = optV (of.find? (fun v => decide (v.p = part) && decide (v.s = name))) := by
  unfold ofK
  rw [List.find?_map, show ((fun v : ByteArray × ByteArray × Tt => decide (v.1 = part) && decide (v.2.1 = name)) ∘ Vr.tr) = fun v => decide (v.p = part) && decide (v.s = name) from funext fun v => by cases v; rfl]
  cases of.find? (fun v => decide (v.p = part) && decide (v.s = name)) with
  | none => rfl
  | some v => cases v; rfl
theorem portK_fd (vars : List Vr) (ports : List Pr) (bag : Bool) (of : List Vr) (name : ByteArray) : portK ⟨vars.map Vr.tr, ports.map Pr.tr, bag, of.map Vr.tr⟩ name = if bag = true then (ports.find? (fun v => decide (v.s = name))).map (fun v => v.t.tr) else none := by
  unfold portK
  cases bag with
  | false => rfl
  | true =>
    rw [if_pos rfl, if_pos rfl, List.find?_map, show ((fun v : ByteArray × Tt => decide (v.1 = name)) ∘ Pr.tr) = fun v => decide (v.s = name) from funext fun v => by cases v; rfl]
    cases ports.find? (fun v => decide (v.s = name)) with
    | none => rfl
    | some v => cases v; rfl
theorem Tt_comm (a b : Tt) : a.same b = b.same a := by rw [Bool.eq_iff_iff, Tt.same_iff, Tt.same_iff]; exact eq_comm
theorem len1 {α : Type} {l : List α} (h : l.length = 1) : ∃ a, l = [a] := by
  match l, h with
  | [a], _ => exact ⟨a, rfl⟩
theorem len2 {α : Type} {l : List α} (h : l.length = 2) : ∃ a b, l = [a, b] := by
  match l, h with
  | [a, b], _ => exact ⟨a, b, rfl⟩
theorem len3 {α : Type} {l : List α} (h : l.length = 3) : ∃ a b c, l = [a, b, c] := by
  match l, h with
  | [a, b, c], _ => exact ⟨a, b, c, rfl⟩
theorem leaf_i {nm : Nm} {op n : Int} {s u : ByteArray} {ts : List Tt} (h : (op = 13 ∧ ts.length = 1) ∨ ((op = 15 ∨ op = 16 ∨ op = 17 ∨ op = 18 ∨ op = 19) ∧ ts.length = 2)) : leafK nm op n s u ts = if intsB ts = true then (inT, 0) else (noT, 12) := by
  rcases h with ⟨rfl, h⟩ | ⟨ho, h⟩
  · obtain ⟨a, rfl⟩ := len1 h
    simp [leafK, signK, kindsB, intsB]
  · obtain ⟨a, b, rfl⟩ := len2 h
    rcases ho with rfl | rfl | rfl | rfl | rfl <;> simp [leafK, signK, kindsB, intsB]
theorem leaf_b {nm : Nm} {op n : Int} {s u : ByteArray} {ts : List Tt} (h : (op = 14 ∧ ts.length = 1) ∨ ((op = 23 ∨ op = 24) ∧ ts.length = 2)) : leafK nm op n s u ts = if boolsB ts = true then (boT, 0) else (noT, 12) := by
  rcases h with ⟨rfl, h⟩ | ⟨ho, h⟩
  · obtain ⟨a, rfl⟩ := len1 h
    simp [leafK, signK, kindsB, boolsB]
  · obtain ⟨a, b, rfl⟩ := len2 h
    rcases ho with rfl | rfl <;> simp [leafK, signK, kindsB, boolsB]
theorem leaf_s {nm : Nm} {op n : Int} {s u : ByteArray} {ts : List Tt} (h : (op = 20 ∨ op = 21 ∨ op = 22) ∧ ts.length = 2) : leafK nm op n s u ts = if sameB ts = true then (boT, 0) else (noT, 12) := by
  obtain ⟨ho, h⟩ := h
  obtain ⟨a, b, rfl⟩ := len2 h
  have e : sameB [a, b] = a.same b := by
    rw [Bool.eq_iff_iff, Tt.same_iff]
    simp [sameB, Tt.same_iff]
    exact eq_comm
  rcases ho with rfl | rfl | rfl <;> simp [leafK, signK, e]
theorem dp_four {ts : List Tt} (h : ∀ a ∈ ts, a.ok 3 = true) : (Tt.mk 3 ts).dp ≤ 4 := by
  rw [dp_mk, if_pos rfl]
  have := (mxN_le (ts.map Go.Val.Tt.dp) 3).2 (fun x hx => by
    obtain ⟨a, ha, rfl⟩ := List.mem_map.1 hx
    exact (dp_ok a 3 3 (h a ha)).1 (h a ha))
  omega
theorem leaf_6 {nm : Nm} {n : Int} {s u : ByteArray} {ts : List Tt} (h : ∀ a ∈ ts, a.ok 3 = true) (h1 : 1 ≤ ts.length) (h4 : ts.length ≤ 4) : leafK nm 6 n s u ts = if (Tt.mk 3 ts).dp ≤ 3 then (.mk 3 ts, 0) else (noT, 7) := by
  have e := tuple_dp h h1 h4
  simp only [leafK, tupleK, e]
  simp
end Go.Proofs.YtjhpckeoackblaaDoor
