/- The document's Del, Set, Get. -/
import Derived.Test.YtodiemichniehaaSet
namespace Go.Proofs.Ytodiemichniehaa
open Go.RowKit Go.Kx Go.Maps
set_option maxRecDepth 20000

theorem delM_snoc (m : List Ent) (e : Ent) (k : Int) : delM (m ++ [e]) k = if e.1 = k then delM m k else delM m k ++ [e] := by
  unfold delM
  rw [List.filter_append]
  by_cases h : e.1 = k
  · rw [if_pos h, List.filter_cons_of_neg (by simpa using h)]; simp
  · rw [if_neg h, List.filter_cons_of_pos (by simpa using h)]; simp
theorem delM_le (m : List Ent) (k : Int) : (delM m k).length ≤ m.length := List.length_filter_le _ _
theorem take_succ {L : List Ent} {i : Nat} {e : Ent} (h : L[i]? = some e) : L.take (i + 1) = L.take i ++ [e] := by
  rw [List.take_add_one, h]; rfl
theorem own_ne2 {W : World} {base n : Nat} {A : Option Addr} {c : Nat} {t : TypeId} {xs : List Value} (h : W.ownsRow base t 2 (.slice A n c) n xs) {S : List Nat} (hS : ∀ p, A = some p → p.block ∉ S) : ∀ b, (Value.slice A n c).ownBlock = some b → b ∉ S := fun b hb => by
  cases A with
  | none => simp [Value.ownBlock] at hb
  | some p => simp [Value.ownBlock] at hb; subst hb; exact hS p rfl
/-- a list of the document's entries, to be read -/
def Row2 (w : World) (B : Nat) (A : Option Addr) (L : List Ent) : Prop :=
  L = [] ∨ ∃ (b o : Nat) (cs : Array Value), A = some ⟨b, o, none⟩ ∧ Blk w b 33 cs ∧ B ≤ b ∧ ∀ i e, L[i]? = some e → cs[o + i * 2]? = some (.int .i64 e.1) ∧ cs[o + i * 2 + 1]? = some (.int .i64 e.2)
theorem Row2.only {S : List Nat} {w w' : World} {B : Nat} {A : Option Addr} {L : List Ent} (h : Row2 w B A L) (o : Only S w w') (hS : ∀ b cs, Blk w b 33 cs → b ∉ S) : Row2 w' B A L := by
  rcases h with h | ⟨b, k, cs, h1, h2, h3⟩
  · exact .inl h
  · exact .inr ⟨b, k, cs, h1, o.blk h2 (hS b cs h2), h3⟩
theorem Row2.keep {w w' : World} {B : Nat} {A : Option Addr} {L : List Ent} (h : Row2 w B A L) (o : Only [] w w') : Row2 w' B A L := h.only o (fun _ _ _ => by simp)
theorem Row2.base {w : World} {B B' : Nat} {A : Option Addr} {L : List Ent} (h : Row2 w B A L) (hB : B' ≤ B) : Row2 w B' A L := by
  rcases h with h | ⟨b, k, cs, h1, h2, h3, h4⟩
  · exact .inl h
  · exact .inr ⟨b, k, cs, h1, h2, by omega, h4⟩
theorem Row2.tail {w : World} {B b o : Nat} {x : Ent} {L : List Ent} (h : Row2 w B (some ⟨b, o, none⟩) (x :: L)) : Row2 w B (some ⟨b, o + 2, none⟩) L := by
  rcases h with h | ⟨b', k, cs, h1, h2, h3, h4⟩
  · cases h
  · injection h1 with h1
    injection h1 with h1 h5
    subst h1
    subst h5
    refine .inr ⟨b, o + 2, cs, rfl, h2, h3, fun i e hi => ?_⟩
    have := h4 (i + 1) e (by simpa using hi)
    have e1 : o + (i + 1) * 2 = o + 2 + i * 2 := by omega
    rwa [e1] at this
theorem row_cell {w : World} {B : Nat} {A : Option Addr} {L : List Ent} (h : Row2 w B A L) {i : Nat} {e : Ent} (hi : L[i]? = some e) : ∃ b o, A = some ⟨b, o, none⟩ ∧ b < w.heap.size ∧ w.cell? ⟨b, o + i * 2, none⟩ = some (.int .i64 e.1) ∧ w.cell? ⟨b, o + i * 2 + 1, none⟩ = some (.int .i64 e.2) := by
  rcases h with h | ⟨b, k, cs, h1, h2, h3, h4⟩
  · rw [h] at hi; simp at hi
  · obtain ⟨f0, f1⟩ := h4 i e hi
    exact ⟨b, k, h1, h2.lt, by rw [h2.cell]; exact f0, by rw [h2.cell]; exact f1⟩
theorem own_row2 {w : World} {B n c : Nat} {A : Option Addr} {L : List Ent} (hn : n = L.length) (h : w.ownsRow B 33 2 (.slice A n c) n (flat2 L)) : Row2 w B A L := by
  subst hn
  rcases h.2 with ⟨h1, h2⟩ | ⟨g, cap', cur, h1, hb, hg, _, _, _, hcur⟩
  · exact .inl (List.length_eq_zero_iff.1 h2)
  · injection h1 with hA _ _
    refine .inr ⟨g, 0, cur, hA, hg, hb, fun i e hi => ?_⟩
    obtain ⟨f0, f1⟩ := flat2_at L i e hi
    have cell (j : Nat) (v : Value) (hj : (flat2 L)[j]? = some v) : cur[j]? = some v := by
      rw [← hcur] at hj
      have hlt2 : j < (cur.toList.take (L.length * 2)).length := (List.getElem?_eq_some_iff.1 hj).1
      rw [List.getElem?_take_of_lt (by simp at hlt2; omega)] at hj
      simpa using hj
    rw [Nat.zero_add]
    exact ⟨cell _ _ f0, cell _ _ f1⟩
theorem HB.row2 {B B' : Nat} {w w' : World} {g : Nat} {M : Option Nat} {L m : List Ent} {A A' : Option Addr} {c : Nat} (hH : HB B w g M L A c) (h : Row2 w B' A' m) (o : Only (heapS g A M) w w') : Row2 w' B' A' m :=
  h.only o fun b cs hb => by
    have h1 : b ≠ g := fun e => by subst e; exact Blk.ne_ hb hH.blk (by decide) rfl
    have h2 : ∀ p, A = some p → b ≠ p.block := fun p e k => owns_ne hH.own hb (by decide) (by rw [e, k]; rfl)
    have h3 : ∀ bm, M = some bm → b ≠ bm := fun bm e k => (hH.map bm e).ne hb k.symm
    intro hm
    simp at hm
    rcases hm with h | ⟨p, hp, h⟩ | h
    · exact h1 h
    · exact h2 p hp h.symm
    · exact h3 b h rfl
set_option maxHeartbeats 1000000 in
theorem refdel_any {B : Nat} {w : World} {m : List Ent} {A : Option Addr} {c : Nat} (hm : Row2 w B A m) (k : Int) (hl : m.length ≤ 1048576) :
    Calls Try.prog 13 #[.slice A m.length c, .int .i64 k] w fun e w' => ∃ A' c', e = .returned (.tuple #[.slice A' (delM m k).length c', .bool (hasM m k)]) ∧ w'.ownsRow w.heap.size 33 2 (.slice A' (delM m k).length c') (delM m k).length (flat2 (delM m k)) ∧ Only [] w w' := by
  have HM := Lib.hid hm
  clear hm
  go_enter Try.func13, Try.ntmps13
  go_wp2_with (fail)
  go_loopw [6, 7, 8] (fun v b u wr => ∃ (i : Nat) (A' : Option Addr) (c' : Nat), v = .slice A' (delM (m.take i) k).length c' ∧ b = .bool (hasM (m.take i) k) ∧ u = .int .i64 i ∧ i ≤ m.length ∧ wr.ownsRow w.heap.size 33 2 (.slice A' (delM (m.take i) k).length c') (delM (m.take i) k).length (flat2 (delM (m.take i) k)) ∧ Only [] w wr) (fun _ _ u _ => m.length - (intOf u).toNat)
  case atStart => exact ⟨0, none, 0, rfl, rfl, rfl, Nat.zero_le _, World.ownsRow_nil _ _ _ _, Only.refl _ _⟩
  case round =>
    obtain ⟨i, A', c', rfl, rfl, rfl, hi, hO, ho⟩ := hrel
    by_cases hlt : i < m.length
    · have hit : m[i]? = some (gt_ m i) := gt_at hlt
      have hT := take_succ hit
      obtain ⟨p, po, rfl, pl, c0, c1⟩ := row_cell (HM.out.keep ho) hit
      generalize gt_ m i = e at hit hT c0 c1
      have iz0 : (0 : Int) ≤ (i : Int) := by omega
      have iz1 : (i : Int) < (m.length : Int) := by omega
      have hdl := delM_le (m.take i) k
      rw [List.length_take] at hdl
      have HO := Lib.hid ho
      have HW := Lib.hid hO
      by_cases hk : e.1 = k
      · have h1 : delM (m.take (i + 1)) k = delM (m.take i) k := by rw [hT, delM_snoc, if_pos hk]
        have h2 : hasM (m.take (i + 1)) k = true := by rw [hT, hasM_append]; simp [hk]
        have hbk : (e.1 == k) = true := by simpa using hk
        clear hO ho
        go_wp2_with (fail)
        go_roundw
        case rel => exact ⟨i + 1, A', c', by rw [h1], by rw [h2], by go_num, by omega, by rw [h1]; exact HW.out, HO.out⟩
        case measure => simp [intOf]; omega
      · have h1 : delM (m.take (i + 1)) k = delM (m.take i) k ++ [e] := by rw [hT, delM_snoc, if_neg hk]
        have h2 : hasM (m.take (i + 1)) k = hasM (m.take i) k := by rw [hT, hasM_append]; simp [hk]
        have hbk : (e.1 == k) = false := by simpa using hk
        obtain ⟨q, c2, W3, hrun, hw3, o3, hq⟩ := run_append2 (P := Try.prog) 33 27 Try.underlying27 re_info rfl hO e ho.size (by unfold maxLen; omega) (by omega)
        have o4 : Only [] w W3 := ho.trans o3 (fun y hy => .inr (by
          have := hO.lt y (by simpa using hy)
          exact this.1))
        have HW3 := Lib.hid hw3
        have HO4 := Lib.hid o4
        clear hO ho hw3 o3 o4
        go_wp2_with (at_builtin; refine wpList_append_run hrun rfl _ _ rfl rfl rfl rfl ?_)
        go_roundw
        case rel => exact ⟨i + 1, _, c2, by rw [h1, List.length_append]; rfl, by rw [h2], by go_num, by omega, by rw [h1, List.length_append, flat2_snoc]; exact HW3.out, HO4.out⟩
        case measure => simp [intOf]; omega
    · have hie : i = m.length := by omega
      have ht : m.take i = m := by rw [hie]; exact List.take_length
      rw [ht] at hO ⊢
      have iz1 : ¬ (i : Int) < (m.length : Int) := by omega
      have HO := Lib.hid ho
      have HW := Lib.hid hO
      clear hO ho hie
      go_wp2_with (fail)
      go_ret2
      exact ⟨A', c', rfl, HW.out, HO.out⟩
set_option maxHeartbeats 1000000 in
theorem refget_any {B : Nat} {w : World} {m : List Ent} {A : Option Addr} {c : Nat} (hm : Row2 w B A m) (k : Int) (hl : m.length ≤ 1048576) :
    Calls Try.prog 16 #[.slice A m.length c, .int .i64 k] w fun e w' => e = .returned (.tuple #[.int .i64 ((getM m k).getD 0), .bool (hasM m k)]) ∧ Only [] w w' := by
  have HM := Lib.hid hm
  clear hm
  go_enter Try.func16, Try.ntmps16
  go_wp2_with (fail)
  go_loopw [6] (fun u wr => ∃ (i : Nat), u = .int .i64 i ∧ i ≤ m.length ∧ hasM (m.take i) k = false ∧ Only [] w wr) (fun u _ => m.length - (intOf u).toNat)
  case atStart => exact ⟨0, rfl, Nat.zero_le _, rfl, Only.refl _ _⟩
  case round =>
    obtain ⟨i, rfl, hi, hno, ho⟩ := hrel
    by_cases hlt : i < m.length
    · have hit : m[i]? = some (gt_ m i) := gt_at hlt
      have hT := take_succ hit
      obtain ⟨p, po, rfl, pl, c0, c1⟩ := row_cell (HM.out.keep ho) hit
      generalize gt_ m i = e at hit hT c0 c1
      have iz0 : (0 : Int) ≤ (i : Int) := by omega
      have iz1 : (i : Int) < (m.length : Int) := by omega
      have HO := Lib.hid ho
      by_cases hk : e.1 = k
      · have hbk : (e.1 == k) = true := by simpa using hk
        have hm2 : m = m.take i ++ e :: m.drop (i + 1) := by
          have h3 := List.take_append_drop (i + 1) m
          rw [hT, List.append_assoc] at h3
          exact h3.symm
        have hg : getM m k = some e.2 := by
          unfold getM
          rw [hm2, List.find?_append]
          have h4 : (m.take i).find? (fun e => e.1 == k) = none := by
            rw [List.find?_eq_none]
            intro x hx
            simpa using hasM_false hno x hx
          rw [h4, List.find?_cons_of_pos (by simpa using hk)]
          rfl
        have hh : hasM m k = true := by
          have := hasM_at hit
          rwa [hk] at this
        clear ho hT hm2
        go_wp2_with (fail)
        go_ret2
        exact ⟨by rw [hg, hh]; rfl, HO.out⟩
      · have hbk : (e.1 == k) = false := by simpa using hk
        have h2 : hasM (m.take (i + 1)) k = false := by rw [hT, hasM_append, hno]; simp [hk]
        clear ho hT
        go_wp2_with (fail)
        go_roundw
        case rel => exact ⟨i + 1, by go_num, by omega, h2, HO.out⟩
        case measure => simp [intOf]; omega
    · have hie : i = m.length := by omega
      have ht : m.take i = m := by rw [hie]; exact List.take_length
      rw [ht] at hno
      have iz1 : ¬ (i : Int) < (m.length : Int) := by omega
      have HO := Lib.hid ho
      clear ho hie
      go_wp2_with (fail)
      go_ret2
      exact ⟨by rw [getM_none hno]; rfl, HO.out⟩
end Go.Proofs.Ytodiemichniehaa
