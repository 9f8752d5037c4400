/- The document's list of entries, plain: Del, Set, Get; and a heap that holds the same entries. -/
import Derived.Test.YtodiemichniehaaHeap
namespace Go.Kx

theorem elt_total (a b : Ent) : elt a b ∨ a = b ∨ elt b a := by
  obtain ⟨a1, a2⟩ := a
  obtain ⟨b1, b2⟩ := b
  unfold elt
  simp only [Prod.mk.injEq]
  omega
theorem elt_trans {a b c : Ent} (h : elt a b) (k : elt b c) : elt a c := by unfold elt at *; omega

/-- without a key -/
def delM (m : List Ent) (k : Int) : List Ent := m.filter fun e => !(e.1 == k)
/-- an entry, laid where it belongs -/
def insM (x : Ent) : List Ent → List Ent
  | [] => [x]
  | y :: m => if elt x y then x :: y :: m else y :: insM x m
/-- with a key -/
def setM (m : List Ent) (x : Ent) : List Ent := insM x (delM m x.1)
def hasM (m : List Ent) (k : Int) : Bool := m.any fun e => e.1 == k
/-- what a key stands by -/
def getM (m : List Ent) (k : Int) : Option Int := (m.find? fun e => e.1 == k).map (·.2)

theorem insM_perm (x : Ent) : ∀ m : List Ent, (insM x m).Perm (x :: m)
  | [] => .refl _
  | y :: m => by
    unfold insM
    by_cases h : elt x y
    · rw [if_pos h]
    · rw [if_neg h]
      exact ((insM_perm x m).cons y).trans (.swap _ _ _)
theorem insM_length (x : Ent) (m : List Ent) : (insM x m).length = m.length + 1 := by simpa using (insM_perm x m).length_eq
theorem insM_sorted (x : Ent) : ∀ m : List Ent, m.Pairwise elt → x ∉ m → (insM x m).Pairwise elt
  | [], _, _ => by simp [insM]
  | y :: m, h, hx => by
    have hy := List.pairwise_cons.1 h
    unfold insM
    by_cases hlt : elt x y
    · rw [if_pos hlt]
      refine List.pairwise_cons.2 ⟨fun z hz => ?_, h⟩
      rcases List.mem_cons.1 hz with rfl | hz
      · exact hlt
      · exact elt_trans hlt (hy.1 z hz)
    · rw [if_neg hlt]
      have hyx : elt y x := by
        rcases elt_total x y with h1 | h1 | h1
        · exact absurd h1 hlt
        · exact absurd (by rw [h1]; exact List.mem_cons_self) hx
        · exact h1
      refine List.pairwise_cons.2 ⟨fun z hz => ?_, insM_sorted x m hy.2 (fun hm => hx (List.mem_cons_of_mem _ hm))⟩
      rcases List.mem_cons.1 ((insM_perm x m).mem_iff.1 hz) with rfl | hz
      · exact hyx
      · exact hy.1 z hz

/-- the heap's entries are the document's -/
structure HS (L m : List Ent) : Prop where
  heap : Heaped L
  perm : L.Perm m
  srt : m.Pairwise elt
  nd : (m.map (·.1)).Nodup
theorem HS.ndL {L m : List Ent} (h : HS L m) : (L.map (·.1)).Nodup := (h.perm.map (·.1)).nodup_iff.2 h.nd
theorem HS.length {L m : List Ent} (h : HS L m) : L.length = m.length := h.perm.length_eq
theorem HS.nil : HS [] [] := ⟨fun c _ h => by simp at h, .refl _, by simp, by simp⟩
theorem hasM_perm {L m : List Ent} (h : L.Perm m) (k : Int) : hasM L k = hasM m k := by
  unfold hasM
  rw [Bool.eq_iff_iff, List.any_eq_true, List.any_eq_true]
  exact ⟨fun ⟨x, hx, e⟩ => ⟨x, h.mem_iff.1 hx, e⟩, fun ⟨x, hx, e⟩ => ⟨x, h.mem_iff.2 hx, e⟩⟩
theorem hasM_at {L : List Ent} {i : Nat} {e : Ent} (h : L[i]? = some e) : hasM L e.1 = true := by
  unfold hasM
  rw [List.any_eq_true]
  exact ⟨e, List.mem_of_getElem? h, by simp⟩
theorem hasM_false {L : List Ent} {k : Int} (h : hasM L k = false) : ∀ e ∈ L, e.1 ≠ k := fun e he hk => by
  unfold hasM at h
  rw [List.any_eq_false] at h
  exact h e he (by simp [hk])
theorem hasM_true {L : List Ent} {k : Int} (h : hasM L k = true) : ∃ (i : Nat) (b : Int), L[i]? = some (k, b) := by
  unfold hasM at h
  rw [List.any_eq_true] at h
  obtain ⟨e, he, hk⟩ := h
  obtain ⟨i, hi⟩ := List.getElem?_of_mem he
  exact ⟨i, e.2, by rw [hi]; obtain ⟨e1, e2⟩ := e; simp at hk; rw [← hk]⟩
theorem at_inj {L : List Ent} (hn : (L.map (·.1)).Nodup) {i j : Nat} {a b : Ent} (hi : L[i]? = some a) (hj : L[j]? = some b) (h : a.1 = b.1) : i = j := by
  have hil : i < L.length := (List.getElem?_eq_some_iff.1 hi).1
  have hjl : j < L.length := (List.getElem?_eq_some_iff.1 hj).1
  have h1 : (L.map (·.1))[i]'(by simpa using hil) = (L.map (·.1))[j]'(by simpa using hjl) := by
    rw [List.getElem_map, List.getElem_map, (List.getElem?_eq_some_iff.1 hi).2, (List.getElem?_eq_some_iff.1 hj).2]
    exact h
  have h2 := List.pairwise_iff_getElem.1 hn
  rcases Nat.lt_trichotomy i j with h | h | h
  · exact absurd h1 (h2 i j (by simpa using hil) (by simpa using hjl) h)
  · exact h
  · exact absurd h1.symm (h2 j i (by simpa using hjl) (by simpa using hil) h)
theorem getM_at {L : List Ent} (hn : (L.map (·.1)).Nodup) {k b : Int} {i : Nat} (h : L[i]? = some (k, b)) : getM L k = some b := by
  unfold getM
  cases hf : L.find? (fun e => e.1 == k) with
  | none =>
    rw [List.find?_eq_none] at hf
    exact absurd (beq_self_eq_true k) (by simpa using hf _ (List.mem_of_getElem? h))
  | some e =>
    have h1 := List.find?_some hf
    obtain ⟨j, hj⟩ := List.getElem?_of_mem (List.mem_of_find?_eq_some hf)
    obtain rfl := at_inj hn h hj (by simpa using (by simpa using h1 : e.1 = k).symm)
    rw [h] at hj
    injection hj with hj
    rw [← hj]
    rfl
theorem getM_none {L : List Ent} {k : Int} (h : hasM L k = false) : getM L k = none := by
  unfold getM
  rw [List.find?_eq_none.2 fun e he => by simpa using hasM_false h e he]
  rfl
theorem getM_perm {L m : List Ent} (hn : (L.map (·.1)).Nodup) (h : L.Perm m) (k : Int) : getM L k = getM m k := by
  have hn' : (m.map (·.1)).Nodup := (h.map (·.1)).nodup_iff.1 hn
  cases hk : hasM L k with
  | false => rw [getM_none hk, getM_none ((hasM_perm h k).symm.trans hk)]
  | true =>
    obtain ⟨i, b, hi⟩ := hasM_true hk
    obtain ⟨j, hj⟩ := List.getElem?_of_mem (h.mem_iff.1 (List.mem_of_getElem? hi))
    rw [getM_at hn hi, getM_at hn' hj]

theorem delM_perm {L m : List Ent} (h : L.Perm m) (k : Int) : (delM L k).Perm (delM m k) := h.filter _
theorem delM_none {L : List Ent} {k : Int} (h : hasM L k = false) : delM L k = L := by
  unfold delM
  rw [List.filter_eq_self]
  intro e he
  simpa using hasM_false h e he
theorem delM_mem {L : List Ent} {k : Int} {e : Ent} (h : e ∈ delM L k) : e ∈ L ∧ e.1 ≠ k := by
  unfold delM at h
  rw [List.mem_filter] at h
  exact ⟨h.1, by simpa using h.2⟩
/-- without the entry at a place -/
theorem delM_at : ∀ {L : List Ent}, (L.map (·.1)).Nodup → ∀ {i : Nat} {k b : Int}, L[i]? = some (k, b) → delM L k = L.eraseIdx i
  | [], _, i, k, b, h => by simp at h
  | a :: L, hn, 0, k, b, h => by
    simp at h
    subst h
    simp only [List.map_cons, List.nodup_cons] at hn
    have : hasM L k = false := by
      unfold hasM
      rw [List.any_eq_false]
      intro e he hk
      exact hn.1 (List.mem_map.2 ⟨e, he, by simpa using hk⟩)
    show List.filter _ _ = _
    rw [List.filter_cons_of_neg (by simp), List.eraseIdx_cons_zero]
    exact delM_none this
  | a :: L, hn, i + 1, k, b, h => by
    simp only [List.map_cons, List.nodup_cons] at hn
    have h1 : L[i]? = some (k, b) := by simpa using h
    have ha : a.1 ≠ k := fun e => hn.1 (List.mem_map.2 ⟨_, List.mem_of_getElem? h1, e.symm⟩)
    show List.filter _ _ = _
    rw [List.filter_cons_of_pos (by simpa using ha), List.eraseIdx_cons_succ]
    congr 1
    exact delM_at hn.2 h1
theorem set_perm_erase : ∀ {L : List Ent} {i : Nat} (x : Ent), i < L.length → (L.set i x).Perm (x :: L.eraseIdx i)
  | [], i, x, h => by simp at h
  | a :: L, 0, x, _ => by simp
  | a :: L, i + 1, x, h => by
    simp only [List.set_cons_succ, List.eraseIdx_cons_succ]
    exact ((set_perm_erase x (by simpa using h)).cons a).trans (.swap _ _ _)
theorem HS.del {L m : List Ent} (h : HS L m) {i : Nat} {k b : Int} (hi : L[i]? = some (k, b)) {L' : List Ent} (hp : L'.Perm (L.eraseIdx i)) (hh : Heaped L') : HS L' (delM m k) := by
  have h1 : L'.Perm (delM m k) := hp.trans (by rw [← delM_at h.ndL hi]; exact delM_perm h.perm k)
  refine ⟨hh, h1, h.srt.sublist List.filter_sublist, ?_⟩
  exact h.nd.sublist (List.filter_sublist.map _)
theorem nd_setM {m : List Ent} (h : (m.map (·.1)).Nodup) (x : Ent) : ((setM m x).map (·.1)).Nodup := by
  have h1 : ((setM m x).map (·.1)).Perm (x.1 :: (delM m x.1).map (·.1)) := (insM_perm x (delM m x.1)).map (·.1)
  rw [h1.nodup_iff, List.nodup_cons]
  refine ⟨fun hm => ?_, h.sublist (List.filter_sublist.map _)⟩
  obtain ⟨e, he, hk⟩ := List.mem_map.1 hm
  exact (delM_mem he).2 hk
theorem srt_setM {m : List Ent} (h : m.Pairwise elt) (x : Ent) : (setM m x).Pairwise elt :=
  insM_sorted x _ (h.sublist List.filter_sublist) fun hx => (delM_mem hx).2 rfl
theorem HS.set {L m : List Ent} (h : HS L m) {i : Nat} {k b by_ : Int} (hi : L[i]? = some (k, b)) {L' : List Ent} (hp : L'.Perm (L.set i (k, by_))) (hh : Heaped L') : HS L' (setM m (k, by_)) := by
  have hil : i < L.length := (List.getElem?_eq_some_iff.1 hi).1
  have h2 := delM_perm h.perm k
  rw [delM_at h.ndL hi] at h2
  have h1 : L'.Perm (setM m (k, by_)) := (hp.trans (set_perm_erase _ hil)).trans ((h2.cons _).trans (insM_perm (k, by_) (delM m k)).symm)
  exact ⟨hh, h1, srt_setM h.srt _, nd_setM h.nd _⟩
theorem HS.push {L m : List Ent} (h : HS L m) {k by_ : Int} (hk : hasM L k = false) {L' : List Ent} (hp : L'.Perm (L ++ [(k, by_)])) (hh : Heaped L') : HS L' (setM m (k, by_)) := by
  have h2 := delM_perm h.perm k
  rw [delM_none hk] at h2
  have h1 : L'.Perm (setM m (k, by_)) := (hp.trans List.perm_append_comm).trans ((h2.cons _).trans (insM_perm (k, by_) (delM m k)).symm)
  exact ⟨hh, h1, srt_setM h.srt _, nd_setM h.nd _⟩
theorem HS.min {L m : List Ent} {x : Ent} (h : HS L (x :: m)) : L[0]? = some x := by
  have hl : 0 < L.length := by rw [h.length]; simp
  have hx : x ∈ L := h.perm.mem_iff.2 List.mem_cons_self
  obtain ⟨j, hj⟩ := List.getElem?_of_mem hx
  have hjl : j < L.length := (List.getElem?_eq_some_iff.1 hj).1
  have h1 := h.heap.min j hjl
  unfold gt_ at h1
  rw [hj, List.getElem?_eq_getElem hl] at h1
  simp only [Option.getD_some] at h1
  rw [List.getElem?_eq_getElem hl]
  rcases List.mem_cons.1 (h.perm.mem_iff.1 (List.getElem_mem hl)) with h2 | h2
  · rw [h2]
  · exact absurd ((List.pairwise_cons.1 h.srt).1 _ h2) h1
theorem HS.pop {L m : List Ent} {x : Ent} (h : HS L (x :: m)) {L' : List Ent} (hp : L'.Perm (L.eraseIdx 0)) (hh : Heaped L') : HS L' m := by
  have h0 := h.min
  have h1 := h.del (i := 0) (k := x.1) (b := x.2) (by rw [h0]) hp hh
  have h2 : delM (x :: m) x.1 = m := by
    have := delM_at h.nd (i := 0) (k := x.1) (b := x.2) (by simp)
    rw [this]
    rfl
  rwa [h2] at h1

/-- where each stands is told by a map -/
def eraseAt (L : List Ent) (i : Nat) : List Ent := (swp L i (L.length - 1)).take (L.length - 1)
theorem eraseAt_perm {L : List Ent} {i : Nat} (hi : i < L.length) : (eraseAt L i).Perm (L.eraseIdx i) := by
  have h1 := swp_perm hi (show L.length - 1 < L.length by omega)
  have hl : (swp L i (L.length - 1)).length = L.length := swp_length _ _ _
  have h2 : swp L i (L.length - 1) = eraseAt L i ++ [gt_ L i] := by
    have h3 : (swp L i (L.length - 1))[L.length - 1]? = some (gt_ L i) := by
      unfold swp
      rw [List.getElem?_set_self (by simp; omega)]
    have h4 := List.take_append_drop (L.length - 1) (swp L i (L.length - 1))
    rw [← h4]
    unfold eraseAt
    congr 1
    rw [List.drop_eq_getElem_cons (by omega), (List.getElem?_eq_some_iff.1 h3).2, List.drop_eq_nil_of_le (by omega)]
  have h5 : L.Perm (gt_ L i :: L.eraseIdx i) := by
    have := set_perm_erase (gt_ L i) hi
    have e : L.set i (gt_ L i) = L := by
      unfold gt_
      rw [List.getElem?_eq_getElem hi]
      exact List.set_getElem_self hi
    rwa [e] at this
  rw [h2] at h1
  have h6 : (gt_ L i :: eraseAt L i).Perm (gt_ L i :: L.eraseIdx i) := (List.perm_append_comm (l₁ := [gt_ L i])).trans (h1.trans h5)
  exact List.perm_cons _ |>.1 h6
end Go.Kx
