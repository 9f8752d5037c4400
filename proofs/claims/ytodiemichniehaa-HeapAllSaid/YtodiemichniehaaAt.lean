/- Where each key stands: a map's datum against a list of entries. -/
import Derived.Test.YtodiemichniehaaLists
import Derived.Maps.OwnOps
import Derived.Maps.OwnSet
namespace Go.Kx
open Go.Maps

theorem _root_.Go.World.ownsMap.norm {H : Type} {w : World} {P : Program} {k : TypeId} {R : Value → Option (DataW H × List MemPlace)} {b n : Nat} {D : DataW H} (h : w.ownsMap P k R b n D) {n' : Nat} (hn : Maps.size D ≤ n') : w.ownsMap P k R b n' D := by
  obtain ⟨es, clock, hb, F, _, rfl⟩ := h
  exact ⟨es, clock, hb, F, by simpa [Maps.size, length_sorted] using hn, rfl⟩

abbrev ik (k : Int) : Lit := .int .i64 k
abbrev iv (i : Nat) : DataW Unit := .lit (.int .i64 (i : Int))
theorem ik_ne {a b : Int} (h : a ≠ b) : ik a ≠ ik b := fun e => h (by injection e)
theorem ik_key (a : Int) : WideAt.IsKeyLit (ik a) := trivial

structure AtIs (D : DataW Unit) (L : List Ent) : Prop where
  tidy : Tidy D
  has_ : ∀ k, Maps.has D (ik k) = hasM L k
  at_ : ∀ (i : Nat) (e : Ent), L[i]? = some e → ∀ z, D.atKey (ik e.1) z = iv i
  size_ : Maps.size D = L.length
theorem AtIs.nil : AtIs (.map []) [] := ⟨tidy_empty, fun _ => rfl, fun i e h => by simp at h, rfl⟩
theorem hasM_append (L : List Ent) (x : Ent) (k : Int) : hasM (L ++ [x]) k = (hasM L k || x.1 == k) := by simp [hasM]
theorem AtIs.put_new {D : DataW Unit} {L : List Ent} (h : AtIs D L) {k by_ : Int} (hk : hasM L k = false) : AtIs (D.put (ik k) (iv L.length)) (L ++ [(k, by_)]) := by
  refine ⟨h.tidy.put (ik_key k) _, fun k' => ?_, fun i e hi z => ?_, ?_⟩
  · rw [hasM_append]
    by_cases e : k' = k
    · subst e; rw [has_put_same h.tidy.isMap (ik_key _)]; simp
    · rw [has_put_other (ik_ne e), h.has_]
      have : (k == k') = false := by simpa using fun h => e h.symm
      rw [this, Bool.or_false]
  · by_cases hl : i < L.length
    · rw [List.getElem?_append_left hl] at hi
      have hne : e.1 ≠ k := hasM_false hk e (List.mem_of_getElem? hi)
      rw [atKey_put_other (ik_ne hne)]
      exact h.at_ i e hi z
    · rw [List.getElem?_append_right (by omega)] at hi
      have h0 : i - L.length = 0 := by
        have := (List.getElem?_eq_some_iff.1 hi).1
        simp at this
        omega
      rw [h0] at hi
      simp at hi
      subst hi
      have : i = L.length := by omega
      subst this
      exact atKey_put_same h.tidy.isMap (ik_key _) _ _
  · rw [size_put h.tidy, h.has_, hk, h.size_]
    simp
theorem AtIs.set_by {D : DataW Unit} {L : List Ent} (h : AtIs D L) {i : Nat} {k b by_ : Int} (hi : L[i]? = some (k, b)) : AtIs D (L.set i (k, by_)) := by
  have hil : i < L.length := (List.getElem?_eq_some_iff.1 hi).1
  refine ⟨h.tidy, fun k' => ?_, fun j e hj z => ?_, by rw [h.size_]; simp⟩
  · rw [h.has_]
    have e : (L.set i (k, by_)).map (·.1) = L.map (·.1) := by
      rw [List.map_set]
      have : (L.map (·.1))[i]? = some k := by simp [hi]
      have h2 := (List.getElem?_eq_some_iff.1 this)
      have h3 := List.set_getElem_self (as := L.map (·.1)) (i := i) (by simpa using hil)
      rw [h2.2] at h3
      exact h3
    have f : ∀ M : List Ent, hasM M k' = (M.map (·.1)).any (· == k') := fun M => by unfold hasM; rw [List.any_map]; rfl
    rw [f, f, e]
  · by_cases hij : i = j
    · subst hij
      rw [List.getElem?_set_self hil] at hj
      injection hj with hj
      subst hj
      exact h.at_ i (k, b) hi z
    · rw [List.getElem?_set_ne hij] at hj
      exact h.at_ j e hj z
theorem hasM_mem {L M : List Ent} (h : ∀ e, e ∈ L ↔ e ∈ M) (k : Int) : hasM L k = hasM M k := by
  unfold hasM
  rw [Bool.eq_iff_iff, List.any_eq_true, List.any_eq_true]
  exact ⟨fun ⟨x, hx, e⟩ => ⟨x, (h x).1 hx, e⟩, fun ⟨x, hx, e⟩ => ⟨x, (h x).2 hx, e⟩⟩
theorem swp_nd {L : List Ent} (hn : (L.map (·.1)).Nodup) {i j : Nat} (hi : i < L.length) (hj : j < L.length) : ((swp L i j).map (·.1)).Nodup := ((swp_perm hi hj).map (·.1)).nodup_iff.2 hn
theorem swp_at {L : List Ent} {i j : Nat} {a b : Ent} (hi : L[i]? = some a) (hj : L[j]? = some b) (k : Nat) : (swp L i j)[k]? = if k = j then some a else if k = i then some b else L[k]? := by
  have hil : i < L.length := (List.getElem?_eq_some_iff.1 hi).1
  have hjl : j < L.length := (List.getElem?_eq_some_iff.1 hj).1
  have ha : gt_ L i = a := by unfold gt_; rw [hi]; rfl
  have hb : gt_ L j = b := by unfold gt_; rw [hj]; rfl
  unfold swp
  rw [ha, hb]
  by_cases h1 : k = j
  · subst h1; rw [if_pos rfl, List.getElem?_set_self (by simpa using hjl)]
  · rw [if_neg h1, List.getElem?_set_ne (Ne.symm h1)]
    by_cases h2 : k = i
    · subst h2; rw [if_pos rfl, List.getElem?_set_self hil]
    · rw [if_neg h2, List.getElem?_set_ne (Ne.symm h2)]
/-- two changed places: the one behind is told first .. -/
theorem AtIs.swap {D : DataW Unit} {L : List Ent} (h : AtIs D L) (hn : (L.map (·.1)).Nodup) {i j : Nat} {a b : Ent} (hi : L[i]? = some a) (hj : L[j]? = some b) : AtIs ((D.put (ik b.1) (iv i)).put (ik a.1) (iv j)) (swp L i j) := by
  have hil : i < L.length := (List.getElem?_eq_some_iff.1 hi).1
  have hjl : j < L.length := (List.getElem?_eq_some_iff.1 hj).1
  have hb : hasM L b.1 = true := hasM_at hj
  have ha : hasM L a.1 = true := hasM_at hi
  have t1 := h.tidy.put (ik_key b.1) (iv i)
  have hs1 : ∀ k, Maps.has (D.put (ik b.1) (iv i)) (ik k) = hasM L k := fun k => by
    by_cases e : k = b.1
    · subst e; rw [has_put_same h.tidy.isMap (ik_key _), hb]
    · rw [has_put_other (ik_ne e), h.has_]
  refine ⟨t1.put (ik_key a.1) _, fun k => ?_, fun k e hk z => ?_, ?_⟩
  · rw [hasM_mem (fun e => (swp_perm hil hjl).mem_iff) k]
    by_cases e : k = a.1
    · subst e; rw [has_put_same t1.isMap (ik_key _), ha]
    · rw [has_put_other (ik_ne e), hs1]
  · rw [swp_at hi hj] at hk
    by_cases h1 : k = j
    · subst h1
      rw [if_pos rfl] at hk
      injection hk with hk
      subst hk
      exact atKey_put_same t1.isMap (ik_key _) _ _
    · rw [if_neg h1] at hk
      by_cases h2 : k = i
      · subst h2
        rw [if_pos rfl] at hk
        injection hk with hk
        subst hk
        have hne : b.1 ≠ a.1 := fun e => h1 (at_inj hn hi hj e.symm)
        rw [atKey_put_other (ik_ne hne)]
        exact atKey_put_same h.tidy.isMap (ik_key _) _ _
      · rw [if_neg h2] at hk
        have n1 : e.1 ≠ a.1 := fun e' => h2 (at_inj hn hk hi e')
        have n2 : e.1 ≠ b.1 := fun e' => h1 (at_inj hn hk hj e')
        rw [atKey_put_other (ik_ne n1), atKey_put_other (ik_ne n2)]
        exact h.at_ k e hk z
  · rw [size_put t1, hs1, ha, if_pos rfl, size_put h.tidy, h.has_, hb, if_pos rfl, h.size_, swp_length]
/-- the last one is let go of -/
theorem AtIs.del_last {D : DataW Unit} {L : List Ent} (h : AtIs D L) (hn : (L.map (·.1)).Nodup) {e : Ent} {n : Nat} (hl : L.length = n + 1) (he : L[n]? = some e) : AtIs (D.del (ik e.1)) (L.take n) := by
  have hL : L = L.take n ++ [e] := by
    have := List.take_append_drop n L
    rw [← this]
    congr 1
    · rw [this]
    · rw [List.drop_eq_getElem_cons (by omega), (List.getElem?_eq_some_iff.1 he).2, List.drop_eq_nil_of_le (by omega)]
  have hno : hasM (L.take n) e.1 = false := by
    unfold hasM
    rw [List.any_eq_false]
    intro x hx hk
    obtain ⟨j, hj⟩ := List.getElem?_of_mem hx
    have hjl := (List.getElem?_eq_some_iff.1 hj).1
    rw [List.length_take] at hjl
    rw [List.getElem?_take_of_lt (by omega)] at hj
    have := at_inj hn hj he (by simpa using hk)
    omega
  refine ⟨h.tidy.del _, fun k => ?_, fun i x hi z => ?_, ?_⟩
  · by_cases hk : k = e.1
    · subst hk; rw [has_del_same, hno]
    · rw [has_del_other (ik_ne hk), h.has_]
      conv => lhs; rw [hL, hasM_append]
      have : (e.1 == k) = false := by simpa using fun h => hk h.symm
      rw [this, Bool.or_false]
  · have hne : x.1 ≠ e.1 := hasM_false hno x (List.mem_of_getElem? hi)
    rw [atKey_del_other (ik_ne hne)]
    have hil := (List.getElem?_eq_some_iff.1 hi).1
    rw [List.length_take] at hil
    rw [List.getElem?_take_of_lt (by omega)] at hi
    exact h.at_ i x hi z
  · have := size_del h.tidy (k := ik e.1)
    rw [h.has_, hasM_at he, if_pos rfl, h.size_] at this
    rw [List.length_take]
    omega

/-- what is left when the entry at a place is taken out may rise or sink -/
theorem eraseAt_rises {L : List Ent} (h : Heaped L) {i : Nat} (hi : i < L.length) : Rises (eraseAt L i) i := by
  have h1 := ((h.sinks i).rises.set (gt_ L (L.length - 1))).front (L.length - 1)
  have e : eraseAt L i = (L.set i (gt_ L (L.length - 1))).take (L.length - 1) := by
    unfold eraseAt swp
    rw [List.take_set_of_le (by omega)]
  rwa [e]
theorem eraseAt_last {L : List Ent} (h : Heaped L) {i : Nat} (hi : i < L.length) (hl : i = L.length - 1) : Heaped (eraseAt L i) := by
  have e : eraseAt L i = L.take (L.length - 1) := by
    unfold eraseAt swp
    subst hl
    rw [List.set_set, List.take_set_of_le (by omega)]
  rw [e]
  exact h.front _
end Go.Kx
