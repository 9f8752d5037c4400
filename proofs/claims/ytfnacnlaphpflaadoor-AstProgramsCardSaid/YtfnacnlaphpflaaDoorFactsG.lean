/- Drawn regions by one fact an operation, with a ghost: what the facts hang on and an operation that may come at any time lays. -/
import Derived.Test.YtfnacnlaphpflaaDoorFactsR
namespace Go.Kx
open Go Go.RowKit
section
variable {Fe : Fence} {d : Nat} {P : Program} {ops : Array Oper} {Q : Exit → Act → World → Prop}
def Does4 (P : Program) (ops : Array Oper) (Q : Exit → Act → World → Prop) (fr : (Nat → Value) → Act) (w0 : World) (Rel : World → World → Prop) {γ : Type} (V : γ → World → Prop) (F : γ → Nat → Value → World → Prop) (i : Nat) (o : Oper) : Prop :=
  ∀ (g : γ) (vals : Nat → Value) (w : World), Rel w0 w → V g w → Pre (F g) vals w o.after.toList →
    ∀ K : Act → World → Prop, Shut (∀ a w', (∃ v g', a = (fr vals).put o.dst v ∧ Rel w w' ∧ V g' w' ∧ F g' i v w' ∧ ∀ j u, j ≠ i → reaches ops ops.size j i = false → F g j u w → F g' j u w') → K a w') → RunsOp P ops Q o K w (fr vals)
theorem wpAnyIn_factsG {m : Nat} (hFe : Loose Fe) (hnd : ∀ (i : Nat) (o : Oper), ops[i]? = some o → ∀ c, o.op ≠ .defer c) (hml : m ≤ ops.size) (hd : dstsApart ops = true) (hb : edgesBack ops = true) (ht : tailTail ops m = true) (hrc : tailReach ops m = true) (Rel : World → World → Prop) {γ : Type} (V : γ → World → Prop) (F : γ → Nat → Value → World → Prop) {a0 : Act} {w0 : World}
    (trans : ∀ a b c, Rel a b → Rel b c → Rel a c)
    (steps : ∀ i o, i < m → ops[i]? = some o → ∀ (g : γ) (vals : Nat → Value) (w : World), Rel w0 w → V g w → (∀ e ∈ o.after, Region.binds .any e = true → F g e.on (vals e.on) w) →
      ∀ K : Act → World → Prop, Shut (∀ v w' g', Rel w w' → V g' w' → F g' i v w' → (∀ j u, j ≠ i → reaches ops ops.size j i = false → F g j u w → F g' j u w') → K ((putAll ops a0 vals m).put o.dst v) w') →
        if Region.wanted o (yielded ops (putAll ops a0 vals m).tmps) = true then Oper.wp P o (putAll ops a0 vals m) w K Q else K ((putAll ops a0 vals m).put o.dst undef) w)
    (done : ∀ g vals w, Rel w0 w → V g w → (∀ j, j < m → F g j (vals j) w) → wpOpsIn Fe d P ops Q (List.range' m (ops.size - m)) (putAll ops a0 vals m) w) :
    ∀ (fuel : Nat) (L : Array Bool) (g : γ) (vals : Nat → Value) (w : World), L.size = ops.size → unl ops L ≤ fuel → Rel w0 w → V g w → (∀ j, L.getD j false = true → F g j (vals j) w) → (∀ j, m ≤ j → j < ops.size → L.getD j true = false) → Closed ops L →
      wpAnyIn Fe d P .any ops Q fuel L (putAll ops a0 vals m) w := by
  have all : ∀ L : Array Bool, L.size = ops.size → (∀ i ∈ Region.ready .any ops L, m ≤ i) → ∀ j, j < m → L.getD j false = true := by
    intro L hL hr j
    induction j using Nat.strongRecOn with
    | ind j ih =>
      intro hj
      rcases hc : L.getD j false with _ | _
      · exfalso
        have hjl : j < ops.size := by omega
        have hm : j ∈ Region.ready .any ops L := by
          refine mem_ready.2 ⟨?_, ops[j], Array.getElem?_eq_getElem hjl, fun e he hbd => ?_⟩
          · simp [hL, hjl] at hc ⊢; exact hc
          · have hlt := edgesBack_spec hb (Array.getElem?_eq_getElem hjl) e he hbd
            exact ih e.on hlt (by omega)
        have := hr j hm
        omega
      · rfl
  have unlm : ∀ L : Array Bool, L.size = ops.size → (∀ j, m ≤ j → j < ops.size → L.getD j true = false) → ops.size - m ≤ unl ops L := by
    intro L hL hh
    unfold unl
    have e : List.range ops.size = List.range m ++ List.range' m (ops.size - m) := by
      have h2 := List.range'_append_1 (s := 0) (m := m) (n := ops.size - m)
      rw [Nat.zero_add] at h2
      rw [List.range_eq_range', List.range_eq_range', h2]
      congr 1; omega
    rw [e, List.filter_append, List.length_append]
    have : (List.range' m (ops.size - m)).filter (fun i => !L.getD i true) = List.range' m (ops.size - m) := by
      rw [List.filter_eq_self]
      intro j hj
      have := List.mem_range'_1.1 hj
      simp [hh j this.1 (by omega)]
    rw [this, List.length_range']
    omega
  intro fuel
  induction fuel with
  | zero =>
    intro L g vals w hL hu hR hV hF hH hCl
    have h1 := unlm L hL hH
    have e : m = ops.size := by omega
    have hr : ∀ i ∈ Region.ready .any ops L, m ≤ i := by
      intro i hi
      exfalso
      obtain ⟨h0, o, ho, _⟩ := mem_ready.1 hi
      have := unl_set (ops := ops) (Array.getElem?_eq_some_iff.1 ho).1 hL h0
      omega
    have hlow := all L hL hr
    exact wpAnyIn_tailC hb ht (ops.size - m) m 0 L _ w rfl (Nat.le_refl _) hml hL (by omega) hlow hH (done g vals w hR hV (fun j hj => hF j (hlow j hj)))
  | succ fuel ih =>
    intro L g vals w hL hu hR hV hF hH hCl
    by_cases hr : ∀ i ∈ Region.ready .any ops L, m ≤ i
    · have hlow := all L hL hr
      have h1 := unlm L hL hH
      exact wpAnyIn_tailC hb ht (ops.size - m) m (fuel + 1) L _ w rfl (Nat.le_refl _) hml hL (by omega) hlow hH (done g vals w hR hV (fun j hj => hF j (hlow j hj)))
    · have hr' : ∃ i, i ∈ Region.ready .any ops L ∧ i < m := by
        rcases Classical.em (∃ i, i ∈ Region.ready .any ops L ∧ i < m) with h | h
        · exact h
        · exact (hr (fun i hi => by
            rcases Nat.lt_or_ge i m with h2 | h2
            · exact (h ⟨i, hi, h2⟩).elim
            · exact h2)).elim
      obtain ⟨i1, hi1, him1⟩ := hr'
      have hun1 := (mem_ready.1 hi1).1
      have hi1l : i1 < ops.size := by omega
      refine ⟨fun h => (by rw [h] at hi1; cases hi1), fun i hi => ?_⟩
      obtain ⟨h0, o, ho, hpre⟩ := mem_ready.1 hi
      have hlt : i < ops.size := (Array.getElem?_eq_some_iff.1 ho).1
      have him : i < m := by
        rcases Nat.lt_or_ge i m with h | h
        · exact h
        · exfalso
          have h1 := reaches_listed hCl ops.size i o ho hpre (tailReach_spec hrc h hlt him1)
          simp [hL, hi1l] at h1 hun1
          rw [h1] at hun1; cases hun1
      have hdst : o.dst = dstAt ops i := by simp [dstAt, ho]
      refine wpOpIn_of_plain hFe (hnd i o ho) ho (fun K' hK => steps i o him ho g vals w hR hV (fun e he hbd => hF _ (hpre e he hbd)) K' (fun v w' g' hr' hv' hf htr => hK _ _ ?_))
      rw [hdst, putAll_upd hd _ hml him]
      refine ih (L.setIfInBounds i true) g' (upd vals i v) w' (by simp [hL]) (by have := unl_set (ops := ops) hlt hL h0; omega) (trans _ _ _ hR hr') hv' (fun j hj => ?_) (fun j hj hjl => ?_) (hCl.set ho hL hpre)
      · unfold upd
        by_cases e : j = i
        · rw [if_pos e, e]; exact hf
        · rw [if_neg e]
          rw [getD_set_ne false (Ne.symm e)] at hj
          refine htr j _ e ?_ (hF j hj)
          rcases hrr : reaches ops ops.size j i with _ | _
          · rfl
          · exfalso
            have hjl : j < ops.size := by
              rcases Nat.lt_or_ge j L.size with h | h
              · omega
              · simp [h] at hj
            have h1 := reaches_listed hCl ops.size j ops[j] (Array.getElem?_eq_getElem hjl) (hCl j _ hj (Array.getElem?_eq_getElem hjl)) hrr
            simp [hL, hlt] at h1 h0
            rw [h1] at h0; cases h0
      · rw [getD_set_ne true (by omega)]; exact hH j hj hjl

/-- a drawn region by one fact an operation, for whatever relation the facts abide; the tail within the fence -/
theorem wpIn_region_relG {id : Nat} {a0 : Act} {w0 : World} {fr : (Nat → Value) → Act} {tl : List Oper} (m : Nat) (Rel : World → World → Prop) {γ : Type} (V : γ → World → Prop) (F : γ → Nat → Value → World → Prop) (g0 : γ) (hFe : Loose Fe) (hnd : (ops.all fun o => match o.op with | .defer _ => false | _ => true) = true) (hm : P.follows .mixedOrders = true) (hd : dstsApart ops = true) (hb : edgesBack ops = true)
    (ht : tailTail ops m = true) (hrc : tailReach ops m = true) (hml : m ≤ ops.size) (htl : ops.toList.drop m = tl)
    (hfr : ∀ vals, putAll ops a0 vals m = fr vals) (refl : Rel w0.drew w0.drew) (trans : ∀ a b c, Rel a b → Rel b c → Rel a c)
    (hV0 : V g0 w0.drew)
    (steps : AllDo (Does4 P ops Q fr w0.drew Rel V F) 0 (ops.toList.take m))
    (done : ∀ g vals w, Rel w0.drew w → V g w → (∀ j, j < m → F g j (vals j) w) → wpListIn Fe d P ops Q tl (fr vals) w) : (Code.region id ops true).wpIn Fe d P Q a0 w0 := by
  refine wpIn_region_any hm ?_
  have hlen : tl.length = ops.size - m := by rw [← htl]; simp
  have h := wpAnyIn_factsG (P := P) (Q := Q) (Fe := Fe) (d := d) hFe (fun i o ho c hc => by
      have := Array.all_eq_true.1 hnd i (Array.getElem?_eq_some_iff.1 ho).1
      rw [(Array.getElem?_eq_some_iff.1 ho).2, hc] at this
      cases this) hml hd hb ht hrc Rel V F (a0 := a0) (w0 := w0.drew) trans
    (fun i o him hio g vals w hR hV hp K hK => by
      have hD := AllDo.at _ 0 steps i o (by rw [List.getElem?_take_of_lt him]; simpa using hio)
      rw [Nat.zero_add] at hD
      rw [hfr vals]
      exact hD g vals w hR hV (Pre.of _ (fun e he => hp e (by simpa using he))) K (fun a w' ⟨v, g', ha, hr, hv, hf, ht⟩ => by rw [ha]; have := hK v w' g' hr hv hf ht; rwa [hfr vals] at this))
    (fun g vals w hR hV hF => by
      rw [hfr vals, ← hlen, wpOpsIn_eq_wpListIn tl m (fun j => by rw [← htl, List.getElem?_drop]; simp)]
      exact done g vals w hR hV hF) ops.size (Array.replicate ops.size false) g0 (fun j => match dstAt ops j with | some t => a0.tmps.getD t undef | none => undef) w0.drew (by simp) (unl_le _ _) refl hV0
    (fun j hj => by
      exfalso
      rcases Nat.lt_or_ge j ops.size with h | h
      · simp [h] at hj
      · simp [h] at hj)
    (fun j _ hj => by simp [hj])
    (fun j o hj => by
      exfalso
      rcases Nat.lt_or_ge j ops.size with h | h
      · simp [h] at hj
      · simp [h] at hj)
  have e : putAll ops a0 (fun j => match dstAt ops j with | some t => a0.tmps.getD t undef | none => undef) m = a0 := putAll_self a0 m
  rw [e] at h
  exact h
end
end Go.Kx
