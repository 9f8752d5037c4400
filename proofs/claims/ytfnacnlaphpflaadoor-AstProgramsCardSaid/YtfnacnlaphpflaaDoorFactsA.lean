/- Drawn regions whose last operations come up in more than one order. -/
import Derived.Test.YtfnacnlaphpflaaDoorFactsR
namespace Go.Kx
open Go Go.RowKit
/-- the first m have come up -/
def upTo (ops : Array Oper) (m : Nat) : Array Bool := ((List.range ops.size).map fun j => decide (j < m)).toArray
theorem upTo_eq {ops : Array Oper} {m : Nat} {L : Array Bool} (hL : L.size = ops.size) (hlow : ∀ j, j < m → L.getD j false = true) (hhigh : ∀ j, m ≤ j → j < ops.size → L.getD j true = false) : L = upTo ops m := by
  refine Array.ext (by simp [upTo, hL]) (fun i h1 h2 => ?_)
  have h2' : i < ops.size := by simpa [upTo] using h2
  by_cases h : i < m
  · have := hlow i h
    simp [h1] at this
    simp [upTo, this, h]
  · have := hhigh i (by omega) h2'
    simp [h1] at this
    simp [upTo, this, h]
section
variable {Fe : Fence} {d : Nat} {P : Program} {ops : Array Oper} {Q : Exit → Act → World → Prop}
theorem wpAnyIn_factsA {m : Nat} (hFe : Loose Fe) (hnd : ∀ (i : Nat) (o : Oper), ops[i]? = some o → ∀ c, o.op ≠ .defer c) (hml : m ≤ ops.size) (hd : dstsApart ops = true) (hb : edgesBack ops = true) (hrc : tailReach ops m = true) (Rel : World → World → Prop) (F : Nat → Value → World → Prop) {a0 : Act} {w0 : World}
    (trans : ∀ a b c, Rel a b → Rel b c → Rel a c) (stab : ∀ i v w w', Rel w w' → F i v w → F i v w')
    (steps : ∀ i o, i < m → ops[i]? = some o → ∀ (vals : Nat → Value) (w : World), Rel w0 w → (∀ e ∈ o.after, Region.binds .any e = true → F e.on (vals e.on) w) →
      ∀ K : Act → World → Prop, Shut (∀ v w', Rel w w' → F i v w' → K ((putAll ops a0 vals m).put o.dst v) w') →
        if Region.wanted o (yielded ops (putAll ops a0 vals m).tmps) = true then Oper.wp P o (putAll ops a0 vals m) w K Q else K ((putAll ops a0 vals m).put o.dst undef) w)
    (done : ∀ L vals w, L.size = ops.size → Rel w0 w → (∀ j, j < m → F j (vals j) w) → (∀ j, j < m → L.getD j false = true) → (∀ j, m ≤ j → j < ops.size → L.getD j true = false) → ∀ fuel, ops.size - m ≤ fuel → wpAnyIn Fe d P .any ops Q fuel L (putAll ops a0 vals m) w) :
    ∀ (fuel : Nat) (L : Array Bool) (vals : Nat → Value) (w : World), L.size = ops.size → unl ops L ≤ fuel → Rel w0 w → (∀ j, L.getD j false = true → F j (vals j) w) → (∀ j, m ≤ j → j < ops.size → L.getD j true = false) → Closed ops L →
      wpAnyIn Fe d P .any ops Q fuel L (putAll ops a0 vals m) w := by
  have all : ∀ L : Array Bool, L.size = ops.size → (∀ i ∈ Region.ready .any ops L, m ≤ i) → ∀ j, j < m → L.getD j false = true := by
    intro L hL hr j
    induction j using Nat.strongRecOn with
    | ind j ih =>
      intro hj
      rcases hc : L.getD j false with _ | _
      · exfalso
        have hjl : j < ops.size := by omega
        have hm : j ∈ Region.ready .any ops L := by
          refine mem_ready.2 ⟨?_, ops[j], Array.getElem?_eq_getElem hjl, fun e he hbd => ?_⟩
          · simp [hL, hjl] at hc ⊢; exact hc
          · have hlt := edgesBack_spec hb (Array.getElem?_eq_getElem hjl) e he hbd
            exact ih e.on hlt (by omega)
        have := hr j hm
        omega
      · rfl
  have unlm : ∀ L : Array Bool, L.size = ops.size → (∀ j, m ≤ j → j < ops.size → L.getD j true = false) → ops.size - m ≤ unl ops L := by
    intro L hL hh
    unfold unl
    have e : List.range ops.size = List.range m ++ List.range' m (ops.size - m) := by
      have h2 := List.range'_append_1 (s := 0) (m := m) (n := ops.size - m)
      rw [Nat.zero_add] at h2
      rw [List.range_eq_range', List.range_eq_range', h2]
      congr 1; omega
    rw [e, List.filter_append, List.length_append]
    have : (List.range' m (ops.size - m)).filter (fun i => !L.getD i true) = List.range' m (ops.size - m) := by
      rw [List.filter_eq_self]
      intro j hj
      have := List.mem_range'_1.1 hj
      simp [hh j this.1 (by omega)]
    rw [this, List.length_range']
    omega
  intro fuel
  induction fuel with
  | zero =>
    intro L vals w hL hu hR hF hH hCl
    have h1 := unlm L hL hH
    have e : m = ops.size := by omega
    have hr : ∀ i ∈ Region.ready .any ops L, m ≤ i := by
      intro i hi
      exfalso
      obtain ⟨h0, o, ho, _⟩ := mem_ready.1 hi
      have := unl_set (ops := ops) (Array.getElem?_eq_some_iff.1 ho).1 hL h0
      omega
    have hlow := all L hL hr
    exact done L vals w hL hR (fun j hj => hF j (hlow j hj)) hlow hH 0 (by omega)
  | succ fuel ih =>
    intro L vals w hL hu hR hF hH hCl
    by_cases hr : ∀ i ∈ Region.ready .any ops L, m ≤ i
    · have hlow := all L hL hr
      have h1 := unlm L hL hH
      exact done L vals w hL hR (fun j hj => hF j (hlow j hj)) hlow hH (fuel + 1) (by omega)
    · have hr' : ∃ i, i ∈ Region.ready .any ops L ∧ i < m := by
        rcases Classical.em (∃ i, i ∈ Region.ready .any ops L ∧ i < m) with h | h
        · exact h
        · exact (hr (fun i hi => by
            rcases Nat.lt_or_ge i m with h2 | h2
            · exact (h ⟨i, hi, h2⟩).elim
            · exact h2)).elim
      obtain ⟨i1, hi1, him1⟩ := hr'
      have hun1 := (mem_ready.1 hi1).1
      have hi1l : i1 < ops.size := by omega
      refine ⟨fun h => (by rw [h] at hi1; cases hi1), fun i hi => ?_⟩
      obtain ⟨h0, o, ho, hpre⟩ := mem_ready.1 hi
      have hlt : i < ops.size := (Array.getElem?_eq_some_iff.1 ho).1
      have him : i < m := by
        rcases Nat.lt_or_ge i m with h | h
        · exact h
        · exfalso
          have h1 := reaches_listed hCl ops.size i o ho hpre (tailReach_spec hrc h hlt him1)
          simp [hL, hi1l] at h1 hun1
          rw [h1] at hun1; cases hun1
      have hdst : o.dst = dstAt ops i := by simp [dstAt, ho]
      refine wpOpIn_of_plain hFe (hnd i o ho) ho (fun K' hK => steps i o him ho vals w hR (fun e he hbd => hF _ (hpre e he hbd)) K' (fun v w' hr' hf => hK _ _ ?_))
      rw [hdst, putAll_upd hd _ hml him]
      refine ih (L.setIfInBounds i true) (upd vals i v) w' (by simp [hL]) (by have := unl_set (ops := ops) hlt hL h0; omega) (trans _ _ _ hR hr') (fun j hj => ?_) (fun j hj hjl => ?_) (hCl.set ho hL hpre)
      · unfold upd
        by_cases e : j = i
        · rw [if_pos e, e]; exact hf
        · rw [if_neg e]
          rw [getD_set_ne false (Ne.symm e)] at hj
          exact stab _ _ _ _ hr' (hF j hj)
      · rw [getD_set_ne true (by omega)]; exact hH j hj hjl

/-- a drawn region by one fact an operation, for whatever relation the facts abide; the tail within the fence -/
theorem wpIn_region_relA {id : Nat} {a0 : Act} {w0 : World} {fr : (Nat → Value) → Act} (m : Nat) (Rel : World → World → Prop) (F : Nat → Value → World → Prop) (hFe : Loose Fe) (hnd : (ops.all fun o => match o.op with | .defer _ => false | _ => true) = true) (hm : P.follows .mixedOrders = true) (hd : dstsApart ops = true) (hb : edgesBack ops = true)
    (hrc : tailReach ops m = true) (hml : m ≤ ops.size)
    (hfr : ∀ vals, putAll ops a0 vals m = fr vals) (refl : Rel w0.drew w0.drew) (trans : ∀ a b c, Rel a b → Rel b c → Rel a c)
    (stab : ∀ i v w w', Rel w w' → F i v w → F i v w')
    (steps : AllDo (Does3 P ops Q fr w0.drew Rel F) 0 (ops.toList.take m))
    (done : ∀ vals w, Rel w0.drew w → (∀ j, j < m → F j (vals j) w) → ∀ fuel, ops.size - m ≤ fuel → wpAnyIn Fe d P .any ops Q fuel (upTo ops m) (fr vals) w) : (Code.region id ops true).wpIn Fe d P Q a0 w0 := by
  refine wpIn_region_any hm ?_
  have h := wpAnyIn_factsA (P := P) (Q := Q) (Fe := Fe) (d := d) hFe (fun i o ho c hc => by
      have := Array.all_eq_true.1 hnd i (Array.getElem?_eq_some_iff.1 ho).1
      rw [(Array.getElem?_eq_some_iff.1 ho).2, hc] at this
      cases this) hml hd hb hrc Rel F (a0 := a0) (w0 := w0.drew) trans stab
    (fun i o him hio vals w hR hp K hK => by
      have hD := AllDo.at _ 0 steps i o (by rw [List.getElem?_take_of_lt him]; simpa using hio)
      rw [Nat.zero_add] at hD
      rw [hfr vals]
      exact hD vals w hR (Pre.of _ (fun e he => hp e (by simpa using he))) K (fun a w' ⟨v, ha, hr, hf⟩ => by rw [ha]; have := hK v w' hr hf; rwa [hfr vals] at this))
    (fun L vals w hL hR hF hlow hhigh fuel hfu => by
      rw [hfr vals, upTo_eq hL hlow hhigh]
      exact done vals w hR hF fuel hfu) ops.size (Array.replicate ops.size false) (fun j => match dstAt ops j with | some t => a0.tmps.getD t undef | none => undef) w0.drew (by simp) (unl_le _ _) refl
    (fun j hj => by
      exfalso
      rcases Nat.lt_or_ge j ops.size with h | h
      · simp [h] at hj
      · simp [h] at hj)
    (fun j _ hj => by simp [hj])
    (fun j o hj => by
      exfalso
      rcases Nat.lt_or_ge j ops.size with h | h
      · simp [h] at hj
      · simp [h] at hj)
  have e : putAll ops a0 (fun j => match dstAt ops j with | some t => a0.tmps.getD t undef | none => undef) m = a0 := putAll_self a0 m
  rw [e] at h
  exact h
/-- the shape of an append in place: append, the place, its store and the slice's store, in three orders -/
def placeB (ops : Array Oper) (m : Nat) : Bool :=
  let r := Region.ready .any ops
  let L := upTo ops m
  let M := L.setIfInBounds m true
  r L == [m] && r M == [m + 1, m + 3] && r (M.setIfInBounds (m + 1) true) == [m + 2, m + 3] && r ((M.setIfInBounds (m + 1) true).setIfInBounds (m + 2) true) == [m + 3] && r (((M.setIfInBounds (m + 1) true).setIfInBounds (m + 2) true).setIfInBounds (m + 3) true) == [] &&
  r ((M.setIfInBounds (m + 1) true).setIfInBounds (m + 3) true) == [m + 2] && r (((M.setIfInBounds (m + 1) true).setIfInBounds (m + 3) true).setIfInBounds (m + 2) true) == [] &&
  r (M.setIfInBounds (m + 3) true) == [m + 1] && r ((M.setIfInBounds (m + 3) true).setIfInBounds (m + 1) true) == [m + 2] && r (((M.setIfInBounds (m + 3) true).setIfInBounds (m + 1) true).setIfInBounds (m + 2) true) == []
theorem wpAnyIn_one {L : Array Bool} {i : Nat} (h : Region.ready .any ops L = [i]) {fuel : Nat} {a : Act} {w : World} (hw : wpOpIn Fe d P ops Q i (wpAnyIn Fe d P .any ops Q fuel (L.setIfInBounds i true)) a w) : wpAnyIn Fe d P .any ops Q (fuel + 1) L a w :=
  ⟨fun e => (by rw [h] at e; cases e), fun j hj => by rw [h] at hj; simp at hj; subst hj; exact hw⟩
theorem wpAnyIn_two {L : Array Bool} {i k : Nat} (h : Region.ready .any ops L = [i, k]) {fuel : Nat} {a : Act} {w : World} (hw : wpOpIn Fe d P ops Q i (wpAnyIn Fe d P .any ops Q fuel (L.setIfInBounds i true)) a w) (hk : wpOpIn Fe d P ops Q k (wpAnyIn Fe d P .any ops Q fuel (L.setIfInBounds k true)) a w) : wpAnyIn Fe d P .any ops Q (fuel + 1) L a w :=
  ⟨fun e => (by rw [h] at e; cases e), fun j hj => by
    rw [h] at hj; simp at hj
    rcases hj with rfl | rfl
    · exact hw
    · exact hk⟩
theorem wpAnyIn_place {m : Nat} (hp : placeB ops m = true) {a : Act} {w : World}
    (h : wpOpIn Fe d P ops Q m (fun a w => wpOpIn Fe d P ops Q (m + 1) (fun a w => wpOpIn Fe d P ops Q (m + 2) (wpOpIn Fe d P ops Q (m + 3) (Q .normal)) a w ∧ wpOpIn Fe d P ops Q (m + 3) (wpOpIn Fe d P ops Q (m + 2) (Q .normal)) a w) a w ∧
      wpOpIn Fe d P ops Q (m + 3) (wpOpIn Fe d P ops Q (m + 1) (wpOpIn Fe d P ops Q (m + 2) (Q .normal))) a w) a w) (fuel : Nat) (hf : 4 ≤ fuel) : wpAnyIn Fe d P .any ops Q fuel (upTo ops m) a w := by
  obtain ⟨f, rfl⟩ : ∃ f, fuel = f + 1 + 1 + 1 + 1 := ⟨fuel - 4, by omega⟩
  unfold placeB at hp
  simp only [Bool.and_eq_true, beq_iff_eq] at hp
  obtain ⟨⟨⟨⟨⟨⟨⟨⟨⟨r1, r2⟩, r3⟩, r4⟩, r5⟩, r6⟩, r7⟩, r8⟩, r9⟩, r10⟩ := hp
  refine wpAnyIn_one r1 (wpOpIn_mono (fun a w h => ?_) h)
  refine wpAnyIn_two r2 (wpOpIn_mono (fun a w h => ?_) h.1) (wpOpIn_mono (fun a w h => ?_) h.2)
  · refine wpAnyIn_two r3 (wpOpIn_mono (fun a w h => ?_) h.1) (wpOpIn_mono (fun a w h => ?_) h.2)
    · exact wpAnyIn_one r4 (wpOpIn_mono (fun a w h => wpAnyIn_done r5 h _) h)
    · exact wpAnyIn_one r6 (wpOpIn_mono (fun a w h => wpAnyIn_done r7 h _) h)
  · refine wpAnyIn_one r8 (wpOpIn_mono (fun a w h => ?_) h)
    exact wpAnyIn_one r9 (wpOpIn_mono (fun a w h => wpAnyIn_done r10 h _) h)
end
end Go.Kx
