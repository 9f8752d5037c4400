/- Regions that draw their order: some operations that only compute are taken as soon as they may come up. -/
import Derived.Test.YtghofiehkdhbeaaDoorFacts
namespace Go.Kx
open Go

section
variable {P : Program} {ops : Array Oper} {Q : Exit → Act → World → Prop}

/-- from number m on each operation waits for all that stand before it, those of D aside -/
def tailWaitsD (ops : Array Oper) (m : Nat) (D : List Nat) : Bool :=
  (List.range ops.size).all fun j => decide (j < m) || match ops[j]? with | none => true | some o => (List.range j).all fun i => D.contains i || o.after.any fun e => Region.binds .any e && e.on == i
theorem tailWaitsD_spec {m : Nat} {D : List Nat} (h : tailWaitsD ops m D = true) {j : Nat} (hm : m ≤ j) {o : Oper} (ho : ops[j]? = some o) : ∀ i, i < j → i ∉ D → ∃ e ∈ o.after, Region.binds .any e = true ∧ e.on = i := by
  intro i hi hd
  unfold tailWaitsD at h
  rw [List.all_eq_true] at h
  have h1 := h j (List.mem_range.2 (Array.getElem?_eq_some_iff.1 ho).1)
  rw [ho] at h1
  simp only [Bool.or_eq_true, decide_eq_true_eq, List.all_eq_true, List.mem_range] at h1
  rcases h1 with h1 | h1
  · omega
  · rcases h1 i hi with h2 | h2
    · exact absurd (by simpa using h2) hd
    · obtain ⟨e, he, hb⟩ := Array.any_eq_true'.1 h2
      simp only [Bool.and_eq_true, beq_iff_eq] at hb
      exact ⟨e, he, hb.1, hb.2⟩

/-- the operations of D stand before m, none waits for another one of D, and no other one touches what they do but those that wait for them or that they wait for -/
def detsOk (ops : Array Oper) (m : Nat) (D : List Nat) : Bool :=
  D.all fun d => decide (d < m) && match ops[d]? with
    | none => false
    | some o => o.dst.isSome && o.after.all (fun e => !Region.binds .any e || !D.contains e.on) &&
      (List.range ops.size).all fun j => j == d || o.after.any (fun e => Region.binds .any e && e.on == j) || match ops[j]? with
        | none => true
        | some oj => oj.after.any (fun e => Region.binds .any e && e.on == d) || o.apart ops oj
theorem detsOk_spec {m : Nat} {D : List Nat} (h : detsOk ops m D = true) {d : Nat} (hd : d ∈ D) : d < m ∧ ∃ o t, ops[d]? = some o ∧ o.dst = some t ∧
    ∀ j oj, ops[j]? = some oj → j ≠ d → (∀ e ∈ o.after, Region.binds .any e = true → e.on ≠ j) → (∀ e ∈ oj.after, Region.binds .any e = true → e.on ≠ d) → o.apart ops oj = true := by
  unfold detsOk at h
  rw [List.all_eq_true] at h
  have h1 := h d hd
  rw [Bool.and_eq_true, decide_eq_true_eq] at h1
  obtain ⟨h1, h3⟩ := h1
  refine ⟨h1, ?_⟩
  cases ho : ops[d]? with
  | none => rw [ho] at h3; cases h3
  | some o =>
    rw [ho] at h3
    simp only [Bool.and_eq_true] at h3
    obtain ⟨⟨h4, h5⟩, h6⟩ := h3
    obtain ⟨t, ht⟩ := Option.isSome_iff_exists.1 h4
    refine ⟨o, t, rfl, ht, fun j oj hj hne h7 h8 => ?_⟩
    rw [List.all_eq_true] at h6
    have h9 := h6 j (List.mem_range.2 (Array.getElem?_eq_some_iff.1 hj).1)
    rw [hj] at h9
    simp only [Bool.or_eq_true, beq_iff_eq, hne, false_or] at h9
    rcases h9 with h9 | h9 | h9
    · obtain ⟨e, he, hb⟩ := Array.any_eq_true'.1 h9
      simp only [Bool.and_eq_true, beq_iff_eq] at hb
      exact absurd hb.2 (h7 e he hb.1)
    · obtain ⟨e, he, hb⟩ := Array.any_eq_true'.1 h9
      simp only [Bool.and_eq_true, beq_iff_eq] at hb
      exact absurd hb.2 (h8 e he hb.1)
    · exact h9

theorem wpAny_factsD {m : Nat} {D : List Nat} (hml : m ≤ ops.size) (hd : dstsApart ops = true) (hb : edgesBack ops = true) (ht : tailWaitsD ops m D = true) (hdet : detsOk ops m D = true) (hsel : Region.noSelect ops = true)
    (hQ : ∀ c a (d : Tmp) v w, Q (.panic c) (a.put (some d) v) w → Q (.panic c) a w) (Rel : World → World → Prop) (F : Nat → Value → World → Prop) {a0 : Act} {w0 : World}
    (trans : ∀ a b c, Rel a b → Rel b c → Rel a c) (stab : ∀ i v w w', Rel w w' → F i v w → F i v w')
    (dets : ∀ d o, d ∈ D → ops[d]? = some o → ∀ (vals : Nat → Value) (w : World), Rel w0 w → (∀ e ∈ o.after, Region.binds .any e = true → F e.on (vals e.on) w) → ∃ v, Yields P ops o v (putAll ops a0 vals m) ∧ F d v w)
    (steps : ∀ i o, i < m → i ∉ D → ops[i]? = some o → ∀ (vals : Nat → Value) (w : World), Rel w0 w → (∀ e ∈ o.after, Region.binds .any e = true → F e.on (vals e.on) w) →
      ∀ K : Act → World → Prop, Shut (∀ v w', Rel w w' → F i v w' → K ((putAll ops a0 vals m).put o.dst v) w') →
        if Region.wanted o (yielded ops (putAll ops a0 vals m).tmps) = true then Oper.wp P o (putAll ops a0 vals m) w K Q else K ((putAll ops a0 vals m).put o.dst undef) w)
    (done : ∀ vals w, Rel w0 w → (∀ j, j < m → F j (vals j) w) → wpOps P ops Q (List.range' m (ops.size - m)) (putAll ops a0 vals m) w) :
    ∀ (fuel : Nat) (L : Array Bool) (vals : Nat → Value) (w : World), L.size = ops.size → unl ops L ≤ fuel → Rel w0 w → (∀ j, L.getD j false = true → F j (vals j) w) → (∀ j, m ≤ j → j < ops.size → L.getD j true = false) →
      wpAny P .any ops Q fuel L (putAll ops a0 vals m) w := by
  have ft : ∀ L : Array Bool, L.size = ops.size → ∀ j, j < ops.size → L.getD j true = L.getD j false := by
    intro L hL j hj
    simp [hL, hj]
  have all : ∀ L : Array Bool, L.size = ops.size → (∀ i ∈ Region.ready .any ops L, m ≤ i) → ∀ j, j < m → L.getD j false = true := by
    intro L hL hr j
    induction j using Nat.strongRecOn with
    | ind j ih =>
      intro hj
      rcases hc : L.getD j false with _ | _
      · exfalso
        have hjl : j < ops.size := by omega
        have hm : j ∈ Region.ready .any ops L := by
          refine mem_ready.2 ⟨by rw [ft L hL j hjl]; exact hc, ops[j], Array.getElem?_eq_getElem hjl, fun e he hbd => ?_⟩
          have hlt := edgesBack_spec hb (Array.getElem?_eq_getElem hjl) e he hbd
          exact ih e.on hlt (by omega)
        have := hr j hm
        omega
      · rfl
  have unlm : ∀ L : Array Bool, L.size = ops.size → (∀ j, m ≤ j → j < ops.size → L.getD j true = false) → ops.size - m ≤ unl ops L := by
    intro L hL hh
    unfold unl
    have e : List.range ops.size = List.range m ++ List.range' m (ops.size - m) := by
      have h2 := List.range'_append_1 (s := 0) (m := m) (n := ops.size - m)
      rw [Nat.zero_add] at h2
      rw [List.range_eq_range', List.range_eq_range', h2]
      congr 1; omega
    rw [e, List.filter_append, List.length_append]
    have : (List.range' m (ops.size - m)).filter (fun i => !L.getD i true) = List.range' m (ops.size - m) := by
      rw [List.filter_eq_self]
      intro j hj
      have := List.mem_range'_1.1 hj
      simp [hh j this.1 (by omega)]
    rw [this, List.length_range']
    omega
  -- the tail, once all before it has come up
  have tl : ∀ (n k fuel : Nat) (L : Array Bool) (a : Act) (w : World), n = ops.size - k → m ≤ k → k ≤ ops.size → L.size = ops.size → n ≤ fuel →
      (∀ j, j < k → L.getD j false = true) → (∀ j, k ≤ j → j < ops.size → L.getD j true = false) → wpOps P ops Q (List.range' k n) a w → wpAny P .any ops Q fuel L a w := by
    intro n
    induction n with
    | zero =>
      intro k fuel L a w hn hm hk hL hf hlow hhigh hw
      refine wpAny_done ?_ (by simpa [wpOps] using hw) fuel
      rcases hh : Region.ready .any ops L with _ | ⟨i, rs⟩
      · rfl
      · exfalso
        have hi : i ∈ Region.ready .any ops L := by rw [hh]; simp
        obtain ⟨h0, o, ho, _⟩ := mem_ready.1 hi
        have hlt : i < ops.size := (Array.getElem?_eq_some_iff.1 ho).1
        rw [ft L hL i hlt, hlow i (by omega)] at h0; cases h0
    | succ n ih =>
      intro k fuel L a w hn hm hk hL hf hlow hhigh hw
      obtain ⟨fuel, rfl⟩ : ∃ f, fuel = f + 1 := ⟨fuel - 1, by omega⟩
      have hkl : k < ops.size := by omega
      have hk' : ops[k]? = some ops[k] := Array.getElem?_eq_getElem hkl
      refine ⟨fun hr => ?_, fun i hi => ?_⟩
      · exfalso
        have hm' : k ∈ Region.ready .any ops L := mem_ready.2 ⟨hhigh k (Nat.le_refl _) hkl, _, hk', fun e he hbd => hlow _ (edgesBack_spec hb hk' e he hbd)⟩
        rw [hr] at hm'; cases hm'
      · obtain ⟨h0, o, ho, hpre⟩ := mem_ready.1 hi
        have hlt : i < ops.size := (Array.getElem?_eq_some_iff.1 ho).1
        have hik : i = k := by
          rcases Nat.lt_trichotomy i k with h | h | h
          · rw [ft L hL i hlt, hlow i h] at h0; cases h0
          · exact h
          · have hkD : k ∉ D := fun hx => by have := (detsOk_spec hdet hx).1; omega
            obtain ⟨e, he, hbd, hon⟩ := tailWaitsD_spec ht (by omega) ho k h hkD
            have h1 := hpre e he hbd
            have h2 := hhigh k (Nat.le_refl _) hkl
            rw [hon] at h1
            rw [ft L hL k hkl, h1] at h2; cases h2
        subst hik
        rw [List.range'_succ, wpOps_cons] at hw
        refine wpOp_mono (fun a' w' h => ?_) hw
        refine ih (i + 1) fuel (L.setIfInBounds i true) a' w' (by omega) (by omega) (by omega) (by simp [hL]) (by omega) (fun j hj => ?_) (fun j hj hjl => ?_) h
        · by_cases e : i = j
          · subst e; simp [hL, hlt]
          · rw [getD_set_ne false e]; exact hlow j (by omega)
        · rw [getD_set_ne true (by omega)]; exact hhigh j (by omega) hjl
  intro fuel
  induction fuel with
  | zero =>
    intro L vals w hL hu hR hF hH
    have h1 := unlm L hL hH
    have hr : ∀ i ∈ Region.ready .any ops L, m ≤ i := by
      intro i hi
      exfalso
      obtain ⟨h0, o, ho, _⟩ := mem_ready.1 hi
      have := unl_set (ops := ops) (Array.getElem?_eq_some_iff.1 ho).1 hL h0
      omega
    have hlow := all L hL hr
    exact tl (ops.size - m) m 0 L _ w rfl (Nat.le_refl _) hml hL (by omega) hlow hH (done vals w hR (fun j hj => hF j (hlow j hj)))
  | succ fuel ih =>
    intro L vals w hL hu hR hF hH
    -- what follows behind an operation before m
    have next : ∀ (i : Nat) (o : Oper) (v : Value) (w' : World), ops[i]? = some o → i < m → L.getD i true = false → Rel w w' → F i v w' → wpAny P .any ops Q fuel (L.setIfInBounds i true) ((putAll ops a0 vals m).put o.dst v) w' := by
      intro i o v w' ho him h0 hr' hf
      have hlt : i < ops.size := (Array.getElem?_eq_some_iff.1 ho).1
      have hdst : o.dst = dstAt ops i := by simp [dstAt, ho]
      rw [hdst, putAll_upd hd _ hml him]
      refine ih (L.setIfInBounds i true) (upd vals i v) w' (by simp [hL]) (by have := unl_set (ops := ops) hlt hL h0; omega) (trans _ _ _ hR hr') (fun j hj => ?_) (fun j hj hjl => ?_)
      · unfold upd
        by_cases e : j = i
        · rw [if_pos e, e]; exact hf
        · rw [if_neg e]
          rw [getD_set_ne false (Ne.symm e)] at hj
          exact stab _ _ _ _ hr' (hF j hj)
      · rw [getD_set_ne true (by omega)]; exact hH j hj hjl
    by_cases hrd : ∃ d, d ∈ D ∧ d ∈ Region.ready .any ops L
    · obtain ⟨d, hdD, hdr⟩ := hrd
      obtain ⟨h0, o, ho, hpre⟩ := mem_ready.1 hdr
      obtain ⟨hdm, o', t, ho', hot, hap⟩ := detsOk_spec hdet hdD
      obtain rfl : o = o' := Option.some.inj (ho.symm.trans ho')
      have hlt : d < ops.size := by omega
      obtain ⟨v, hy, hf⟩ := dets d o hdD ho vals w hR (fun e he hbd => hF _ (hpre e he hbd))
      refine wpAny_first ho (Region.noSelect_spec hsel) (fun c a w => by rw [hot]; exact hQ c a _ _ w) fuel L _ w (fun j oj hj hne hun hno => ?_) hdr hy ?_
      · refine hap j oj hj hne (fun e he hbd hon => ?_) hno
        have h9 := hpre e he hbd
        rw [hon] at h9
        rw [ft L hL j (Array.getElem?_eq_some_iff.1 hj).1, h9] at hun; cases hun
      · have hrefl : ∀ (i : Nat) (v : Value), F i v w → F i v w := fun _ _ h => h
        have hdst : o.dst = dstAt ops d := by simp [dstAt, ho]
        rw [hdst, putAll_upd hd _ hml hdm]
        refine ih (L.setIfInBounds d true) (upd vals d v) w (by simp [hL]) (by have := unl_set (ops := ops) hlt hL h0; omega) hR (fun j hj => ?_) (fun j hj hjl => ?_)
        · unfold upd
          by_cases e : j = d
          · rw [if_pos e, e]; exact hf
          · rw [if_neg e]
            rw [getD_set_ne false (Ne.symm e)] at hj
            exact hF j hj
        · rw [getD_set_ne true (by omega)]; exact hH j hj hjl
    · by_cases hr : ∀ i ∈ Region.ready .any ops L, m ≤ i
      · have hlow := all L hL hr
        have h1 := unlm L hL hH
        exact tl (ops.size - m) m (fuel + 1) L _ w rfl (Nat.le_refl _) hml hL (by omega) hlow hH (done vals w hR (fun j hj => hF j (hlow j hj)))
      · have hr' : ∃ i, i ∈ Region.ready .any ops L ∧ i < m := by
          rcases Classical.em (∃ i, i ∈ Region.ready .any ops L ∧ i < m) with h | h
          · exact h
          · exact (hr (fun i hi => by
              rcases Nat.lt_or_ge i m with h2 | h2
              · exact (h ⟨i, hi, h2⟩).elim
              · exact h2)).elim
        obtain ⟨i1, hi1, him1⟩ := hr'
        have hun1 := (mem_ready.1 hi1).1
        have hi1D : i1 ∉ D := fun hx => hrd ⟨i1, hx, hi1⟩
        refine ⟨fun h => (by rw [h] at hi1; cases hi1), fun i hi => ?_⟩
        obtain ⟨h0, o, ho, hpre⟩ := mem_ready.1 hi
        have hlt : i < ops.size := (Array.getElem?_eq_some_iff.1 ho).1
        have him : i < m := by
          rcases Nat.lt_or_ge i m with h | h
          · exact h
          · exfalso
            obtain ⟨e, he, hbd, hon⟩ := tailWaitsD_spec ht h ho i1 (by omega) hi1D
            have h1 := hpre e he hbd
            rw [hon] at h1
            rw [ft L hL i1 (by omega), h1] at hun1; cases hun1
        have hiD : i ∉ D := fun hx => hrd ⟨i, hx, hi⟩
        exact wpOp_step ho (fun K' hK => steps i o him hiD ho vals w hR (fun e he hbd => hF _ (hpre e he hbd)) K' (fun v w' hr' hf => hK _ _ (next i o v w' ho him h0 hr' hf)))

/-- what the operations of D yield -/
def Dets (P : Program) (ops : Array Oper) (fr : (Nat → Value) → Act) (w0 : World) (S : List Nat) (F : Nat → Value → World → Prop) : List Nat → Prop
  | [] => True
  | d :: ds => (∀ o, ops[d]? = some o → ∀ (vals : Nat → Value) (w : World), Only S w0 w → Pre F vals w o.after.toList → ∃ v, Yields P ops o v (fr vals) ∧ F d v w) ∧ Dets P ops fr w0 S F ds
theorem Dets.at {fr : (Nat → Value) → Act} {w0 : World} {S : List Nat} {F : Nat → Value → World → Prop} : ∀ {D : List Nat}, Dets P ops fr w0 S F D → ∀ d ∈ D, ∀ o, ops[d]? = some o → ∀ (vals : Nat → Value) (w : World), Only S w0 w → Pre F vals w o.after.toList → ∃ v, Yields P ops o v (fr vals) ∧ F d v w
  | d :: ds, h, x, hx => by
    rcases List.mem_cons.1 hx with rfl | hx
    · exact h.1
    · exact Dets.at h.2 x hx

/-- A REGION THAT DRAWS ITS ORDER, BY ONE FACT AN OPERATION; from number m on the operations come up in the text's order; those of D, which only compute, come up as soon as they may -/
theorem wp_region_factsD {id : Nat} {a0 : Act} {w0 : World} {fr : (Nat → Value) → Act} {tl : List Oper} (m : Nat) (D : List Nat) (S : List Nat) (F : Nat → Value → World → Prop) (hm : P.follows .mixedOrders = true) (hd : dstsApart ops = true) (hb : edgesBack ops = true)
    (ht : tailWaitsD ops m D = true) (hdet : detsOk ops m D = true) (hsel : Region.noSelect ops = true) (hml : m ≤ ops.size)
    (hQ : ∀ c a (d : Tmp) v w, Q (.panic c) (a.put (some d) v) w → Q (.panic c) a w) (htl : ops.toList.drop m = tl)
    (hfr : ∀ vals, putAll ops a0 vals m = fr vals)
    (stab : ∀ i v w w', Only S w w' → F i v w → F i v w')
    (dets : Dets P ops fr w0.drew S F D)
    (steps : AllDo (fun i o => i ∈ D ∨ Does2 P ops Q fr w0.drew S F i o) 0 (ops.toList.take m))
    (done : ∀ vals w, Only S w0.drew w → (∀ j, j < m → F j (vals j) w) → wpList P ops Q tl (fr vals) w) : (Code.region id ops true).wp P Q a0 w0 := by
  refine wp_region_any hm ?_
  have hlen : tl.length = ops.size - m := by rw [← htl]; simp
  have h := wpAny_factsD (P := P) (Q := Q) hml hd hb ht hdet hsel hQ (Only S) F (a0 := a0) (w0 := w0.drew) (fun a b c h k => h.trans k (fun _ hx => .inl hx)) stab
    (fun d o hdD ho vals w hR hp => by
      rw [hfr vals]
      exact Dets.at dets d hdD o ho vals w hR (Pre.of _ (fun e he => hp e (by simpa using he))))
    (fun i o him hiD hio vals w hR hp K hK => by
      have hD := AllDo.at _ 0 steps i o (by rw [List.getElem?_take_of_lt him]; simpa using hio)
      rw [Nat.zero_add] at hD
      rcases hD with hD | hD
      · exact absurd hD hiD
      rw [hfr vals]
      exact hD vals w hR (Pre.of _ (fun e he => hp e (by simpa using he))) K (fun a w' ⟨v, ha, hr, hf⟩ => by rw [ha]; have := hK v w' hr hf; rwa [hfr vals] at this))
    (fun vals w hR hF => by
      rw [hfr vals, ← hlen, wpOps_eq_wpList tl m (fun j => by rw [← htl, List.getElem?_drop]; simp)]
      exact done vals w hR hF) ops.size (Array.replicate ops.size false) (fun j => match dstAt ops j with | some t => a0.tmps.getD t undef | none => undef) w0.drew (by simp) (unl_le _ _) (Only.refl _ _)
    (fun j hj => by
      exfalso
      rcases Nat.lt_or_ge j ops.size with h | h
      · simp [h] at hj
      · simp [h] at hj)
    (fun j _ hj => by simp [hj])
  have e : putAll ops a0 (fun j => match dstAt ops j with | some t => a0.tmps.getD t undef | none => undef) m = a0 := putAll_self a0 m
  rw [e] at h
  exact h
end
end Go.Kx
