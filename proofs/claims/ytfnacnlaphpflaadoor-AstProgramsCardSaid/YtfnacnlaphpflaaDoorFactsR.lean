/- Drawn regions by one fact an operation, at whatever fence that lets everything in; the tail is walked within the fence. -/
import Derived.Test.YtfnacnlaphpflaaDoorFactsC
import Derived.Test.YtfnacnlaphpflaaDoorRange
namespace Go.Kx
open Go Go.RowKit

/-- a fence that lets everything in, in a round or not -/
def Loose (F : Fence) : Prop := F = Fence.wide ∨ ∃ r, F = Fence.wide.inRound r
section
variable {P : Program}
/-- A contract goes into a round as it is. -/
theorem callsIn_round {n l0 : Nat} {f : FuncId} {args : Array Value} {w : World} {R : Ending → World → Prop} (h : Calls P f args w R) : CallsIn (Fence.wide.inRound l0) n P f args w R :=
  let h1 := (callsIn_wide (n := n)).2 h
  ⟨h1.1, fun cs hr => h1.2 cs hr⟩
end
section
variable {Fe : Fence} {d : Nat} {P : Program} {ops : Array Oper} {Q : Exit → Act → World → Prop}
def Does3 (P : Program) (ops : Array Oper) (Q : Exit → Act → World → Prop) (fr : (Nat → Value) → Act) (w0 : World) (Rel : World → World → Prop) (F : Nat → Value → World → Prop) (i : Nat) (o : Oper) : Prop :=
  ∀ (vals : Nat → Value) (w : World), Rel w0 w → Pre F vals w o.after.toList →
    ∀ K : Act → World → Prop, Shut (∀ a w', (∃ v, a = (fr vals).put o.dst v ∧ Rel w w' ∧ F i v w') → K a w') → RunsOp P ops Q o K w (fr vals)
theorem wpOpIn_of_plain {i : Nat} {o : Oper} {K : Act → World → Prop} {a : Act} {w : World} (hFe : Loose Fe) (hnd : ∀ c, o.op ≠ .defer c) (ho : ops[i]? = some o)
    (h : ∀ K' : Act → World → Prop, (∀ a w, K a w → K' a w) → if Region.wanted o (yielded ops a.tmps) = true then Oper.wp P o a w K' Q else K' (a.put o.dst undef) w) : wpOpIn Fe d P ops Q i K a w := by
  have hf : ∀ f, Fe.fn f := by rcases hFe with rfl | ⟨r, rfl⟩ <;> exact fun _ => trivial
  have hd : Fe.depth.isSome = true → 1 ≤ d := by rcases hFe with rfl | ⟨r, rfl⟩ <;> (intro hx; simp [Fence.inRound, Fence.wide] at hx)
  have hr : ∀ {m m' : Machine}, Steps P m m' → StepsIn (Machine.fenced P Fe) P m m' := by
    rcases hFe with rfl | ⟨r, rfl⟩
    · intro m m' h; exact stepsIn_wide.2 h
    · intro m m' h; exact (stepsIn_wide (P := P)).2 h
  have hc : ∀ {k : Nat} {f : FuncId} {args : Array Value} {w : World} {R : Ending → World → Prop}, Calls P f args w R → CallsIn Fe k P f args w R := by
    rcases hFe with rfl | ⟨r, rfl⟩
    · intro _ _ _ _ _ h; exact callsIn_wide.2 h
    · intro _ _ _ _ _ h; exact callsIn_round h
  have h := h K (fun _ _ h => h)
  unfold wpOpIn
  simp only [ho]
  by_cases hw : Region.wanted o (yielded ops a.tmps) = true
  · simp only [hw, if_true] at h ⊢
    refine ⟨fun _ _ => hf _, ?_⟩
    rw [Oper.semAt_plain _ _ _ hnd]
    unfold Oper.wp at h
    generalize (execOp a.eval o).run P w = x at h ⊢
    cases x with
    | ok nx w' =>
      cases nx <;> simp only [Oper.upon] at h <;> simp only [Oper.uponIn]
      case value v => exact h
      case skip => exact h
      case defer d => exact h
      case enter f args =>
        refine ⟨hd, hc (h.mono ?_)⟩
        rintro e w'' he
        cases e with
        | returned v => exact he
        | panicked chain => exact he
        | outgrown => exact he
      case row row args =>
        refine ⟨hd, fun c cs _ => ?_⟩
        obtain ⟨v, w'', hv, hs⟩ := h c cs
        exact ⟨v, w'', hv, hr hs⟩
    | halt x w' =>
      cases x <;> simp only [Oper.upon] at h <;> simp only [Oper.uponIn] <;> exact h
  · simp only [hw] at h ⊢
    exact ⟨fun _ _ => hf _, h⟩
/-- the tail comes up in the text's order -/
theorem wpAnyIn_tailC {m : Nat} (hb : edgesBack ops = true) (ht : tailTail ops m = true) : ∀ (n k fuel : Nat) (L : Array Bool) (a : Act) (w : World), n = ops.size - k → m ≤ k → k ≤ ops.size → L.size = ops.size → n ≤ fuel →
    (∀ j, j < k → L.getD j false = true) → (∀ j, k ≤ j → j < ops.size → L.getD j true = false) → wpOpsIn Fe d P ops Q (List.range' k n) a w → wpAnyIn Fe d P .any ops Q fuel L a w := by
  intro n
  induction n with
  | zero =>
    intro k fuel L a w hn hm hk hL hf hlow hhigh hw
    refine wpAnyIn_done ?_ (by simpa [wpOpsIn] using hw) fuel
    rcases hh : Region.ready .any ops L with _ | ⟨i, rs⟩
    · rfl
    · exfalso
      have hi : i ∈ Region.ready .any ops L := by rw [hh]; simp
      obtain ⟨h0, o, ho, _⟩ := mem_ready.1 hi
      have hlt : i < ops.size := (Array.getElem?_eq_some_iff.1 ho).1
      have := hlow i (by omega)
      simp [hL, hlt] at h0 this
      rw [h0] at this; cases this
  | succ n ih =>
    intro k fuel L a w hn hm hk hL hf hlow hhigh hw
    obtain ⟨fuel, rfl⟩ : ∃ f, fuel = f + 1 := ⟨fuel - 1, by omega⟩
    have hkl : k < ops.size := by omega
    have hk' : ops[k]? = some ops[k] := Array.getElem?_eq_getElem hkl
    refine ⟨fun hr => ?_, fun i hi => ?_⟩
    · exfalso
      have hm' : k ∈ Region.ready .any ops L := mem_ready.2 ⟨hhigh k (Nat.le_refl _) hkl, _, hk', fun e he hbd => hlow _ (edgesBack_spec hb hk' e he hbd)⟩
      rw [hr] at hm'; cases hm'
    · obtain ⟨h0, o, ho, hpre⟩ := mem_ready.1 hi
      have hlt : i < ops.size := (Array.getElem?_eq_some_iff.1 ho).1
      have hik : i = k := by
        rcases Nat.lt_trichotomy i k with h | h | h
        · have := hlow i h
          simp [hL, hlt] at h0 this
          rw [h0] at this; cases this
        · exact h
        · obtain ⟨e, he, hbd, hon⟩ := tailTail_spec ht hm ho h
          have h1 := hpre e he hbd
          rw [hon] at h1
          have h2 := hhigh k (Nat.le_refl _) hkl
          simp [hL, hkl] at h1 h2
          rw [h1] at h2; cases h2
      subst hik
      rw [List.range'_succ, wpOpsIn_cons] at hw
      refine wpOpIn_mono (fun a' w' h => ?_) hw
      refine ih (i + 1) fuel (L.setIfInBounds i true) a' w' (by omega) (by omega) (by omega) (by simp [hL]) (by omega) (fun j hj => ?_) (fun j hj hjl => ?_) h
      · by_cases e : i = j
        · subst e; simp [hL, hlt]
        · rw [getD_set_ne false e]; exact hlow j (by omega)
      · rw [getD_set_ne true (by omega)]; exact hhigh j (by omega) hjl

theorem wpAnyIn_factsC {m : Nat} (hFe : Loose Fe) (hnd : ∀ (i : Nat) (o : Oper), ops[i]? = some o → ∀ c, o.op ≠ .defer c) (hml : m ≤ ops.size) (hd : dstsApart ops = true) (hb : edgesBack ops = true) (ht : tailTail ops m = true) (hrc : tailReach ops m = true) (Rel : World → World → Prop) (F : Nat → Value → World → Prop) {a0 : Act} {w0 : World}
    (trans : ∀ a b c, Rel a b → Rel b c → Rel a c) (stab : ∀ i v w w', Rel w w' → F i v w → F i v w')
    (steps : ∀ i o, i < m → ops[i]? = some o → ∀ (vals : Nat → Value) (w : World), Rel w0 w → (∀ e ∈ o.after, Region.binds .any e = true → F e.on (vals e.on) w) →
      ∀ K : Act → World → Prop, Shut (∀ v w', Rel w w' → F i v w' → K ((putAll ops a0 vals m).put o.dst v) w') →
        if Region.wanted o (yielded ops (putAll ops a0 vals m).tmps) = true then Oper.wp P o (putAll ops a0 vals m) w K Q else K ((putAll ops a0 vals m).put o.dst undef) w)
    (done : ∀ vals w, Rel w0 w → (∀ j, j < m → F j (vals j) w) → wpOpsIn Fe d P ops Q (List.range' m (ops.size - m)) (putAll ops a0 vals m) w) :
    ∀ (fuel : Nat) (L : Array Bool) (vals : Nat → Value) (w : World), L.size = ops.size → unl ops L ≤ fuel → Rel w0 w → (∀ j, L.getD j false = true → F j (vals j) w) → (∀ j, m ≤ j → j < ops.size → L.getD j true = false) → Closed ops L →
      wpAnyIn Fe d P .any ops Q fuel L (putAll ops a0 vals m) w := by
  have all : ∀ L : Array Bool, L.size = ops.size → (∀ i ∈ Region.ready .any ops L, m ≤ i) → ∀ j, j < m → L.getD j false = true := by
    intro L hL hr j
    induction j using Nat.strongRecOn with
    | ind j ih =>
      intro hj
      rcases hc : L.getD j false with _ | _
      · exfalso
        have hjl : j < ops.size := by omega
        have hm : j ∈ Region.ready .any ops L := by
          refine mem_ready.2 ⟨?_, ops[j], Array.getElem?_eq_getElem hjl, fun e he hbd => ?_⟩
          · simp [hL, hjl] at hc ⊢; exact hc
          · have hlt := edgesBack_spec hb (Array.getElem?_eq_getElem hjl) e he hbd
            exact ih e.on hlt (by omega)
        have := hr j hm
        omega
      · rfl
  have unlm : ∀ L : Array Bool, L.size = ops.size → (∀ j, m ≤ j → j < ops.size → L.getD j true = false) → ops.size - m ≤ unl ops L := by
    intro L hL hh
    unfold unl
    have e : List.range ops.size = List.range m ++ List.range' m (ops.size - m) := by
      have h2 := List.range'_append_1 (s := 0) (m := m) (n := ops.size - m)
      rw [Nat.zero_add] at h2
      rw [List.range_eq_range', List.range_eq_range', h2]
      congr 1; omega
    rw [e, List.filter_append, List.length_append]
    have : (List.range' m (ops.size - m)).filter (fun i => !L.getD i true) = List.range' m (ops.size - m) := by
      rw [List.filter_eq_self]
      intro j hj
      have := List.mem_range'_1.1 hj
      simp [hh j this.1 (by omega)]
    rw [this, List.length_range']
    omega
  intro fuel
  induction fuel with
  | zero =>
    intro L vals w hL hu hR hF hH hCl
    have h1 := unlm L hL hH
    have e : m = ops.size := by omega
    have hr : ∀ i ∈ Region.ready .any ops L, m ≤ i := by
      intro i hi
      exfalso
      obtain ⟨h0, o, ho, _⟩ := mem_ready.1 hi
      have := unl_set (ops := ops) (Array.getElem?_eq_some_iff.1 ho).1 hL h0
      omega
    have hlow := all L hL hr
    exact wpAnyIn_tailC hb ht (ops.size - m) m 0 L _ w rfl (Nat.le_refl _) hml hL (by omega) hlow hH (done vals w hR (fun j hj => hF j (hlow j hj)))
  | succ fuel ih =>
    intro L vals w hL hu hR hF hH hCl
    by_cases hr : ∀ i ∈ Region.ready .any ops L, m ≤ i
    · have hlow := all L hL hr
      have h1 := unlm L hL hH
      exact wpAnyIn_tailC hb ht (ops.size - m) m (fuel + 1) L _ w rfl (Nat.le_refl _) hml hL (by omega) hlow hH (done vals w hR (fun j hj => hF j (hlow j hj)))
    · have hr' : ∃ i, i ∈ Region.ready .any ops L ∧ i < m := by
        rcases Classical.em (∃ i, i ∈ Region.ready .any ops L ∧ i < m) with h | h
        · exact h
        · exact (hr (fun i hi => by
            rcases Nat.lt_or_ge i m with h2 | h2
            · exact (h ⟨i, hi, h2⟩).elim
            · exact h2)).elim
      obtain ⟨i1, hi1, him1⟩ := hr'
      have hun1 := (mem_ready.1 hi1).1
      have hi1l : i1 < ops.size := by omega
      refine ⟨fun h => (by rw [h] at hi1; cases hi1), fun i hi => ?_⟩
      obtain ⟨h0, o, ho, hpre⟩ := mem_ready.1 hi
      have hlt : i < ops.size := (Array.getElem?_eq_some_iff.1 ho).1
      have him : i < m := by
        rcases Nat.lt_or_ge i m with h | h
        · exact h
        · exfalso
          have h1 := reaches_listed hCl ops.size i o ho hpre (tailReach_spec hrc h hlt him1)
          simp [hL, hi1l] at h1 hun1
          rw [h1] at hun1; cases hun1
      have hdst : o.dst = dstAt ops i := by simp [dstAt, ho]
      refine wpOpIn_of_plain hFe (hnd i o ho) ho (fun K' hK => steps i o him ho vals w hR (fun e he hbd => hF _ (hpre e he hbd)) K' (fun v w' hr' hf => hK _ _ ?_))
      rw [hdst, putAll_upd hd _ hml him]
      refine ih (L.setIfInBounds i true) (upd vals i v) w' (by simp [hL]) (by have := unl_set (ops := ops) hlt hL h0; omega) (trans _ _ _ hR hr') (fun j hj => ?_) (fun j hj hjl => ?_) (hCl.set ho hL hpre)
      · unfold upd
        by_cases e : j = i
        · rw [if_pos e, e]; exact hf
        · rw [if_neg e]
          rw [getD_set_ne false (Ne.symm e)] at hj
          exact stab _ _ _ _ hr' (hF j hj)
      · rw [getD_set_ne true (by omega)]; exact hH j hj hjl

/-- a drawn region by one fact an operation, for whatever relation the facts abide; the tail within the fence -/
theorem wpIn_region_relR {id : Nat} {a0 : Act} {w0 : World} {fr : (Nat → Value) → Act} {tl : List Oper} (m : Nat) (Rel : World → World → Prop) (F : Nat → Value → World → Prop) (hFe : Loose Fe) (hnd : (ops.all fun o => match o.op with | .defer _ => false | _ => true) = true) (hm : P.follows .mixedOrders = true) (hd : dstsApart ops = true) (hb : edgesBack ops = true)
    (ht : tailTail ops m = true) (hrc : tailReach ops m = true) (hml : m ≤ ops.size) (htl : ops.toList.drop m = tl)
    (hfr : ∀ vals, putAll ops a0 vals m = fr vals) (refl : Rel w0.drew w0.drew) (trans : ∀ a b c, Rel a b → Rel b c → Rel a c)
    (stab : ∀ i v w w', Rel w w' → F i v w → F i v w')
    (steps : AllDo (Does3 P ops Q fr w0.drew Rel F) 0 (ops.toList.take m))
    (done : ∀ vals w, Rel w0.drew w → (∀ j, j < m → F j (vals j) w) → wpListIn Fe d P ops Q tl (fr vals) w) : (Code.region id ops true).wpIn Fe d P Q a0 w0 := by
  refine wpIn_region_any hm ?_
  have hlen : tl.length = ops.size - m := by rw [← htl]; simp
  have h := wpAnyIn_factsC (P := P) (Q := Q) (Fe := Fe) (d := d) hFe (fun i o ho c hc => by
      have := Array.all_eq_true.1 hnd i (Array.getElem?_eq_some_iff.1 ho).1
      rw [(Array.getElem?_eq_some_iff.1 ho).2, hc] at this
      cases this) hml hd hb ht hrc Rel F (a0 := a0) (w0 := w0.drew) trans stab
    (fun i o him hio vals w hR hp K hK => by
      have hD := AllDo.at _ 0 steps i o (by rw [List.getElem?_take_of_lt him]; simpa using hio)
      rw [Nat.zero_add] at hD
      rw [hfr vals]
      exact hD vals w hR (Pre.of _ (fun e he => hp e (by simpa using he))) K (fun a w' ⟨v, ha, hr, hf⟩ => by rw [ha]; have := hK v w' hr hf; rwa [hfr vals] at this))
    (fun vals w hR hF => by
      rw [hfr vals, ← hlen, wpOpsIn_eq_wpListIn tl m (fun j => by rw [← htl, List.getElem?_drop]; simp)]
      exact done vals w hR hF) ops.size (Array.replicate ops.size false) (fun j => match dstAt ops j with | some t => a0.tmps.getD t undef | none => undef) w0.drew (by simp) (unl_le _ _) refl
    (fun j hj => by
      exfalso
      rcases Nat.lt_or_ge j ops.size with h | h
      · simp [h] at hj
      · simp [h] at hj)
    (fun j _ hj => by simp [hj])
    (fun j o hj => by
      exfalso
      rcases Nat.lt_or_ge j ops.size with h | h
      · simp [h] at hj
      · simp [h] at hj)
  have e : putAll ops a0 (fun j => match dstAt ops j with | some t => a0.tmps.getD t undef | none => undef) m = a0 := putAll_self a0 m
  rw [e] at h
  exact h
end
end Go.Kx
