/- The marks: the table, and what stands ahead of a text. -/
import Derived.Test.YtghofiehkdhbeaaDoorNumber
import Derived.Test.YtghofiehkdhbeaaDoorRows
import Derived.Lib.LaidTab
import Derived.Laws.Rows
namespace Go.Proofs.YtghofiehkdhbeaaDoor
open Go.RowKit Go.Kx Go.Tok
set_option maxRecDepth 100000

def onesB : List UInt8 := [123, 125, 40, 41, 44, 59, 58, 46, 61, 60, 43, 45, 42, 47, 37]
def marksL : List (List UInt8) := [[45, 62], [60, 61], [123], [125], [40], [41], [44], [59], [58], [46], [61], [60], [43], [45], [42], [47], [37]]
theorem marks_split : marksL = [45, 62] :: [60, 61] :: onesB.map fun c => [c] := rfl
theorem contains_nat (L : List UInt8) (a : UInt8) : (L.map UInt8.toNat).contains a.toNat = L.contains a := by
  induction L with
  | nil => rfl
  | cons b L ih =>
    rw [List.map_cons, List.contains_cons, List.contains_cons, ih]
    congr 1
    rw [Bool.eq_iff_iff, beq_iff_eq, beq_iff_eq, UInt8.toNat_inj]
theorem one_eq (a : UInt8) : one a = onesB.contains a := contains_nat onesB a
theorem find_one (L : List UInt8) (a : UInt8) (r : List UInt8) : (L.map fun c => [c]).find? (fun m => m.isPrefixOf (a :: r)) = if L.contains a then some [a] else none := by
  induction L with
  | nil => rfl
  | cons b L ih =>
    have e : [b].isPrefixOf (a :: r) = (b == a) := by simp [List.isPrefixOf]
    rw [List.map_cons, List.find?_cons, e, ih, List.contains_cons]
    by_cases h : b = a
    · subst h; simp
    · have h1 : (b == a) = false := by rw [beq_eq_false_iff_ne]; exact h
      have h2 : (a == b) = false := by rw [beq_eq_false_iff_ne]; exact Ne.symm h
      rw [h1, h2, Bool.false_or]
theorem find_none (L : List UInt8) : (L.map fun c => [c]).find? (fun m => m.isPrefixOf ([] : List UInt8)) = none := by
  induction L with
  | nil => rfl
  | cons b L ih => rw [List.map_cons, List.find?_cons, ih]; rfl
theorem pre_two (x y a b : UInt8) (r : List UInt8) : [x, y].isPrefixOf (a :: b :: r) = (x == a && y == b) := by simp [List.isPrefixOf]
theorem beq_nat (x a : UInt8) : (x == a) = decide (a.toNat = x.toNat) := by
  rw [Bool.eq_iff_iff, beq_iff_eq, decide_eq_true_eq, UInt8.toNat_inj]
  exact eq_comm
theorem find_of {l : List UInt8} {n : Nat} (h : markLen l = n) {x : Option (List UInt8)} (h0 : n = 0 → x = none) (h1 : n ≠ 0 → x = some (l.take n)) : (markLen l = 0 → x = none) ∧ (markLen l ≠ 0 → x = some (l.take (markLen l))) := by
  subst h
  exact ⟨h0, h1⟩
theorem find_mark (l : List UInt8) : (markLen l = 0 → marksL.find? (fun m => m.isPrefixOf l) = none) ∧ (markLen l ≠ 0 → marksL.find? (fun m => m.isPrefixOf l) = some (l.take (markLen l))) := by
  rw [marks_split]
  match l with
  | [] => rw [List.find?_cons, List.find?_cons, find_none]; exact find_of (n := 0) rfl (fun _ => rfl) (fun h => absurd rfl h)
  | [a] =>
    have e1 : [45, 62].isPrefixOf [a] = false := by simp [List.isPrefixOf]
    have e2 : [60, 61].isPrefixOf [a] = false := by simp [List.isPrefixOf]
    rw [List.find?_cons, e1, List.find?_cons, e2, find_one, ← one_eq]
    cases h : one a
    · exact find_of (n := 0) (by simp [markLen, h]) (fun _ => by simp) (fun h => absurd rfl h)
    · exact find_of (n := 1) (by simp [markLen, h]) (fun h => by cases h) (fun h => by simp)
  | a :: b :: r =>
    have h45 : (45 : UInt8).toNat = 45 := rfl
    have h62 : (62 : UInt8).toNat = 62 := rfl
    have h60 : (60 : UInt8).toNat = 60 := rfl
    have h61 : (61 : UInt8).toNat = 61 := rfl
    have ht : two a b = ((45 == a && 62 == b) || (60 == a && 61 == b)) := by
      unfold two
      rw [beq_nat, beq_nat, beq_nat, beq_nat, h45, h62, h60, h61]
    rw [List.find?_cons, pre_two, List.find?_cons, pre_two, find_one, ← one_eq]
    cases h1 : ((45 : UInt8) == a && (62 : UInt8) == b) with
    | true =>
      have h2 : (45 : UInt8) = a ∧ (62 : UInt8) = b := by simpa using h1
      exact find_of (n := 2) (by simp [markLen, ht, h1]) (fun h => by cases h) (fun h => by simp [h2.1, h2.2])
    | false =>
      cases h3 : ((60 : UInt8) == a && (61 : UInt8) == b) with
      | true =>
        have h2 : (60 : UInt8) = a ∧ (61 : UInt8) = b := by simpa using h3
        exact find_of (n := 2) (by simp only [markLen, ht, h1, h3]; rfl) (fun h => by cases h) (fun h => by simp [h2.1, h2.2])
      | false =>
        have ht2 : two a b = false := by rw [ht, h1, h3]; rfl
        cases h : one a
        · exact find_of (n := 0) (by simp [markLen, ht2, h]) (fun _ => by simp) (fun h => absurd rfl h)
        · exact find_of (n := 1) (by simp [markLen, ht2, h]) (fun h => by cases h) (fun h => by simp)
def strV (l : List UInt8) : Value := .string ⟨l.toArray⟩
def marksV : Array Value := (marksL.map strV).toArray
theorem marksV_size : marksV.size = 17 := rfl
def MarksIs (W : World) : Prop := ∃ t fr, W.heap[0]? = some (.cells marksV t fr)
theorem MarksIs.only {S : List Nat} {w w' : World} (h : MarksIs w) (o : Only S w w') (h0 : 0 ∉ S) : MarksIs w' := by
  obtain ⟨t, fr, h⟩ := h
  exact ⟨t, fr, (o.block 0 (Array.getElem?_eq_some_iff.1 h).1 h0).trans h⟩
theorem MarksIs.keep {w w' : World} (h : MarksIs w) (o : Only [] w w') : MarksIs w' := h.only o (by simp)
def markAt (k : Nat) : List UInt8 := marksL.getD k []
theorem index_texts (L : List (List UInt8)) (hL : L.length = 17) (k : Nat) (h : k < 17) (w : World) : (Instr.index 49 (.agg (L.map strV).toArray) (.int .i64 (k : Int))).run Tryd.prog w = .ok (strV (L.getD k [])) w := by
  have hu : Tryd.prog.underlying 49 = some (.array 17 9) := by kernel_rfl
  have ha : (isAgg 9).run Tryd.prog w = .ok false w := by kernel_rfl
  have hs : (sizeOf 9).run Tryd.prog w = .ok 1 w := by kernel_rfl
  have hn : (0 : Int) ≤ (k : Int) ∧ (k : Int) < ((17 : Nat) : Int) := by omega
  have hk : (L.map strV).toArray[k]? = some (strV (L.getD k [])) := by
    rw [List.getElem?_toArray, List.getElem?_map, List.getD_eq_getElem?_getD, List.getElem?_eq_getElem (by omega)]
    rfl
  generalize (L.map strV).toArray = V at hk
  generalize strV (L.getD k []) = r at hk
  have hpart : (part 9 V k).run Tryd.prog w = .ok r w := by
    unfold part
    simp only [Sem.run_bind, ha, Result.andThen_ok, Bool.false_eq_true, if_false, hk, Sem.run_pure]
  have e : (Instr.index 49 (.agg V) (.int .i64 (k : Int))).run Tryd.prog w = ((do let __do_lift ← sizeOf 9; part 9 V ((k : Int).toNat * __do_lift)) : Sem Value).run Tryd.prog w := by
    unfold Instr.index
    rw [Sem.run_bind, show (asIntOf (.int .i64 (k : Int))).run Tryd.prog w = .ok (IntKind.i64, (k : Int)) w from rfl, Result.andThen_ok]
    dsimp only
    rw [Sem.run_bind, run_underlying hu, Result.andThen_ok]
    dsimp only
    rw [if_pos hn]
  rw [e, Sem.run_bind, hs, Result.andThen_ok, Int.toNat_natCast, Nat.mul_one]
  exact hpart
theorem mark_index (k : Nat) (h : k < 17) (w : World) : (Instr.index 49 (.agg marksV) (.int .i64 (k : Int))).run Tryd.prog w = .ok (.string ⟨(markAt k).toArray⟩) w := index_texts marksL rfl k h w
/-- none of the first k marks stands ahead -/
def noMark (k : Nat) (l : List UInt8) : Prop := ∀ m ∈ marksL.take k, m.isPrefixOf l = false
theorem noMark_succ {k : Nat} {l : List UInt8} (h : k < 17) (h1 : noMark k l) (h2 : (markAt k).isPrefixOf l = false) : noMark (k + 1) l := by
  intro m hm
  rw [List.take_add_one] at hm
  rcases List.mem_append.1 hm with hm | hm
  · exact h1 m hm
  · have hk : marksL[k]? = some (markAt k) := by
      unfold markAt
      rw [List.getD_eq_getElem?_getD, List.getElem?_eq_getElem (show k < marksL.length from h)]
      rfl
    rw [hk] at hm
    simp at hm
    rw [hm]
    exact h2
theorem noMark_all {l : List UInt8} (h : noMark 17 l) : markLen l = 0 := by
  have h1 : marksL.find? (fun m => m.isPrefixOf l) = none := by
    rw [List.find?_eq_none]
    intro m hm
    rw [h m (by exact hm)]
    decide
  rcases Nat.eq_zero_or_pos (markLen l) with h0 | h0
  · exact h0
  · rw [(find_mark l).2 (by omega)] at h1
    cases h1
theorem mark_hit {k : Nat} {l : List UInt8} (h : k < 17) (h1 : noMark k l) (h2 : (markAt k).isPrefixOf l = true) : markLen l ≠ 0 ∧ l.take (markLen l) = markAt k ∧ markLen l = (markAt k).length := by
  have hk : marksL[k]? = some (markAt k) := by
    unfold markAt
    rw [List.getD_eq_getElem?_getD, List.getElem?_eq_getElem (show k < marksL.length from h)]
    rfl
  have e : marksL = marksL.take k ++ markAt k :: marksL.drop (k + 1) := by
    conv => lhs; rw [← List.take_append_drop k marksL]
    congr 1
    rw [List.drop_eq_getElem_cons (show k < marksL.length from h)]
    congr 1
    exact Option.some.inj ((List.getElem?_eq_getElem (show k < marksL.length from h)).symm.trans hk)
  have h3 : marksL.find? (fun m => m.isPrefixOf l) = some (markAt k) := by
    rw [e, List.find?_append]
    have : (marksL.take k).find? (fun m => m.isPrefixOf l) = none := by
      rw [List.find?_eq_none]
      intro m hm
      rw [h1 m hm]
      decide
    rw [this, List.find?_cons, h2]
    rfl
  rcases Nat.eq_zero_or_pos (markLen l) with h0 | h0
  · rw [(find_mark l).1 h0] at h3
    cases h3
  · rw [(find_mark l).2 (by omega)] at h3
    injection h3 with h3
    have hm : markLen l ≠ 0 := by omega
    refine ⟨hm, h3, ?_⟩
    rw [← h3, List.length_take, Nat.min_eq_left (markLen_le l)]
end Go.Proofs.YtghofiehkdhbeaaDoor
