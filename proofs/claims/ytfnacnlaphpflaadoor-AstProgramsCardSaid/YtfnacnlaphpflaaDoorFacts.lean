/- Regions that draw their order: one fact an operation, each shown once, whatever has come up before. -/
import Derived.Deep.RegionHeld
import Derived.Test.YtfnacnlaphpflaaDoorWords
namespace Go.Kx
open Go

section
variable {P : Program} {ops : Array Oper} {Q : Exit → Act → World → Prop}

def dstAt (ops : Array Oper) (i : Nat) : Option Tmp := (ops[i]?).bind (·.dst)
/-- the frame in which each operation's slot holds what vals says -/
def putAll (ops : Array Oper) (a : Act) (vals : Nat → Value) : Nat → Act
  | 0 => a
  | n + 1 => (putAll ops a vals n).put (dstAt ops n) (vals n)
def dstsApart (ops : Array Oper) : Bool :=
  (List.range ops.size).all fun j => (List.range j).all fun i => match dstAt ops i with | none => true | some d => dstAt ops j != some d
theorem dstsApart_spec (h : dstsApart ops = true) {i j : Nat} (hij : i < j) (hj : j < ops.size) : ∀ d, dstAt ops i = some d → dstAt ops j ≠ some d := by
  intro d hd
  unfold dstsApart at h
  rw [List.all_eq_true] at h
  have h1 := h j (List.mem_range.2 hj)
  rw [List.all_eq_true] at h1
  have h2 := h1 i (List.mem_range.2 hij)
  rw [hd] at h2
  simpa using h2

theorem putAll_congr {a : Act} {u v : Nat → Value} : ∀ n, (∀ i, i < n → u i = v i) → putAll ops a u n = putAll ops a v n
  | 0, _ => rfl
  | n + 1, h => by
    unfold putAll
    rw [putAll_congr n (fun i hi => h i (by omega)), h n (by omega)]

def upd (vals : Nat → Value) (i : Nat) (v : Value) : Nat → Value := fun j => if j = i then v else vals j

theorem put_put (a : Act) (d : Option Tmp) (u v : Value) : (a.put d u).put d v = a.put d v := by
  cases d with
  | none => rfl
  | some d => simp [Act.put, Array.setIfInBounds_setIfInBounds]

theorem putAll_upd (h : dstsApart ops = true) {a : Act} {vals : Nat → Value} {i : Nat} {v : Value} : ∀ n, n ≤ ops.size → i < n →
    (putAll ops a vals n).put (dstAt ops i) v = putAll ops a (upd vals i v) n
  | 0, _, hi => by omega
  | n + 1, hn, hi => by
    by_cases e : i = n
    · subst e
      unfold putAll
      rw [put_put, putAll_congr (u := upd vals i v) (v := vals) i (fun j hj => by unfold upd; rw [if_neg (by omega)])]
      simp [upd]
    · have hin : i < n := by omega
      show ((putAll ops a vals n).put (dstAt ops n) (vals n)).put (dstAt ops i) v = (putAll ops a (upd vals i v) n).put (dstAt ops n) (upd vals i v n)
      rw [← putAll_upd h n (by omega) hin, Act.put_comm _ v _ (dstsApart_spec h hin (by omega))]
      simp [upd, Ne.symm e]

theorem put_self (a : Act) (d : Option Tmp) : a.put d (match d with | some t => a.tmps.getD t undef | none => undef) = a := by
  cases d with
  | none => rfl
  | some t =>
    unfold Act.put
    have : a.tmps.setIfInBounds t (a.tmps.getD t undef) = a.tmps := by
      apply Array.ext_getElem?
      intro i
      rw [Array.getElem?_setIfInBounds]
      split
      · rename_i e
        subst e
        split
        · rename_i hlt
          simp [hlt]
        · rename_i hlt
          simp [hlt]
      · rfl
    simp only
    rw [this]

theorem putAll_self (a : Act) : ∀ n, putAll ops a (fun j => match dstAt ops j with | some t => a.tmps.getD t undef | none => undef) n = a
  | 0 => rfl
  | n + 1 => by
    unfold putAll
    rw [putAll_self a n, put_self]

/-- every edge that binds leads back -/
def edgesBack (ops : Array Oper) : Bool := (List.range ops.size).all fun i => match ops[i]? with | none => true | some o => o.after.all fun e => !Region.binds .any e || decide (e.on < i)
theorem edgesBack_spec (h : edgesBack ops = true) {i : Nat} {o : Oper} (ho : ops[i]? = some o) : ∀ e ∈ o.after, Region.binds .any e = true → e.on < i := by
  intro e he hb
  unfold edgesBack at h
  rw [List.all_eq_true] at h
  have hi : i < ops.size := (Array.getElem?_eq_some_iff.1 ho).1
  have h1 := h i (List.mem_range.2 hi)
  rw [ho] at h1
  simp only at h1
  have h2 := Array.all_eq_true_iff_forall_mem.1 h1 e he
  simp [hb] at h2
  exact h2

/-- one operation does what is said of it -/
def Does (P : Program) (ops : Array Oper) (Q : Exit → Act → World → Prop) (a0 : Act) (w0 : World) (Rel : World → World → Prop) (F : Nat → Value → World → Prop) (i : Nat) (o : Oper) : Prop :=
  ∀ (vals : Nat → Value) (w : World), Rel w0 w → (∀ e ∈ o.after, Region.binds .any e = true → F e.on (vals e.on) w) →
    ∀ K : Act → World → Prop, Shut (∀ v w', Rel w w' → F i v w' → K ((putAll ops a0 vals ops.size).put o.dst v) w') →
      if Region.wanted o (yielded ops (putAll ops a0 vals ops.size).tmps) = true then Oper.wp P o (putAll ops a0 vals ops.size) w K Q else K ((putAll ops a0 vals ops.size).put o.dst undef) w

def AllDo (D : Nat → Oper → Prop) : Nat → List Oper → Prop
  | _, [] => True
  | k, o :: rest => D k o ∧ AllDo D (k + 1) rest
theorem AllDo.at {D : Nat → Oper → Prop} : ∀ (l : List Oper) (k : Nat), AllDo D k l → ∀ i o, l[i]? = some o → D (k + i) o
  | [], _, _, i, o, h => by simp at h
  | x :: l, k, hD, 0, o, h => by simp at h; subst h; exact hD.1
  | x :: l, k, hD, i + 1, o, h => by
    have := AllDo.at l (k + 1) hD.2 i o (by simpa using h)
    have e : k + (i + 1) = k + 1 + i := by omega
    rw [e]; exact this

def unl (ops : Array Oper) (L : Array Bool) : Nat := ((List.range ops.size).filter fun i => !L.getD i true).length

theorem filter_lt_of {α : Type} {p q : α → Bool} {l : List α} (hpq : ∀ x ∈ l, q x = true → p x = true) {y : α} (hy : y ∈ l) (hp : p y = true) (hq : q y = false) : (l.filter q).length < (l.filter p).length := by
  induction l with
  | nil => cases hy
  | cons x l ih =>
    rcases List.mem_cons.1 hy with rfl | hy'
    · rw [List.filter_cons_of_neg (by simp [hq]), List.filter_cons_of_pos hp]
      have hle : (l.filter q).length ≤ (l.filter p).length := by
        clear ih hy
        induction l with
        | nil => simp
        | cons z l ih2 =>
          have ih3 := ih2 (fun x hx => hpq x (by simp at hx ⊢; rcases hx with h | h <;> simp [h]))
          by_cases hz : q z = true
          · have := hpq z (by simp) hz
            rw [List.filter_cons_of_pos hz, List.filter_cons_of_pos this]; simp; exact ih3
          · rw [List.filter_cons_of_neg hz]
            by_cases hz2 : p z = true
            · rw [List.filter_cons_of_pos hz2]; simp; omega
            · rw [List.filter_cons_of_neg hz2]; exact ih3
      simp; omega
    · have ih' := ih (fun x hx => hpq x (List.mem_cons_of_mem _ hx)) hy'
      by_cases hx : q x = true
      · rw [List.filter_cons_of_pos hx, List.filter_cons_of_pos (hpq x (by simp) hx)]; simp; exact ih'
      · rw [List.filter_cons_of_neg hx]
        by_cases hx2 : p x = true
        · rw [List.filter_cons_of_pos hx2]; simp; omega
        · rw [List.filter_cons_of_neg hx2]; exact ih'

theorem unl_set {L : Array Bool} {i : Nat} (hi : i < ops.size) (hL : L.size = ops.size) (h : L.getD i true = false) : unl ops (L.setIfInBounds i true) < unl ops L := by
  unfold unl
  refine filter_lt_of (y := i) (fun j _ hj => ?_) (List.mem_range.2 hi) (by simp [h]) (by simp [hL, hi])
  by_cases e : i = j
  · subst e; simp [hL, hi] at hj
  · rw [getD_set_ne true e] at hj; exact hj

/-- from number m on each operation waits for all that stand before it -/
def tailWaits (ops : Array Oper) (m : Nat) : Bool :=
  (List.range ops.size).all fun j => decide (j < m) || match ops[j]? with | none => true | some o => (List.range j).all fun i => o.after.any fun e => Region.binds .any e && e.on == i
theorem tailWaits_spec {m : Nat} (h : tailWaits ops m = true) {j : Nat} (hm : m ≤ j) {o : Oper} (ho : ops[j]? = some o) : ∀ i, i < j → ∃ e ∈ o.after, Region.binds .any e = true ∧ e.on = i := by
  intro i hi
  unfold tailWaits at h
  rw [List.all_eq_true] at h
  have h1 := h j (List.mem_range.2 (Array.getElem?_eq_some_iff.1 ho).1)
  rw [ho] at h1
  simp only [Bool.or_eq_true, decide_eq_true_eq, List.all_eq_true, List.mem_range] at h1
  rcases h1 with h1 | h1
  · omega
  · obtain ⟨e, he, hb⟩ := Array.any_eq_true'.1 (h1 i hi)
    simp only [Bool.and_eq_true, beq_iff_eq] at hb
    exact ⟨e, he, hb.1, hb.2⟩

/-- the tail comes up in the text's order -/
theorem wpAny_tail {m : Nat} (hb : edgesBack ops = true) (ht : tailWaits ops m = true) : ∀ (n k fuel : Nat) (L : Array Bool) (a : Act) (w : World), n = ops.size - k → m ≤ k → k ≤ ops.size → L.size = ops.size → n ≤ fuel →
    (∀ j, j < k → L.getD j false = true) → (∀ j, k ≤ j → j < ops.size → L.getD j true = false) → wpOps P ops Q (List.range' k n) a w → wpAny P .any ops Q fuel L a w := by
  intro n
  induction n with
  | zero =>
    intro k fuel L a w hn hm hk hL hf hlow hhigh hw
    refine wpAny_done ?_ (by simpa [wpOps] using hw) fuel
    rcases hh : Region.ready .any ops L with _ | ⟨i, rs⟩
    · rfl
    · exfalso
      have hi : i ∈ Region.ready .any ops L := by rw [hh]; simp
      obtain ⟨h0, o, ho, _⟩ := mem_ready.1 hi
      have hlt : i < ops.size := (Array.getElem?_eq_some_iff.1 ho).1
      have := hlow i (by omega)
      simp [hL, hlt] at h0 this
      rw [h0] at this; cases this
  | succ n ih =>
    intro k fuel L a w hn hm hk hL hf hlow hhigh hw
    obtain ⟨fuel, rfl⟩ : ∃ f, fuel = f + 1 := ⟨fuel - 1, by omega⟩
    have hkl : k < ops.size := by omega
    have hk' : ops[k]? = some ops[k] := Array.getElem?_eq_getElem hkl
    refine ⟨fun hr => ?_, fun i hi => ?_⟩
    · exfalso
      have hm' : k ∈ Region.ready .any ops L := mem_ready.2 ⟨hhigh k (Nat.le_refl _) hkl, _, hk', fun e he hbd => hlow _ (edgesBack_spec hb hk' e he hbd)⟩
      rw [hr] at hm'; cases hm'
    · obtain ⟨h0, o, ho, hpre⟩ := mem_ready.1 hi
      have hlt : i < ops.size := (Array.getElem?_eq_some_iff.1 ho).1
      have hik : i = k := by
        rcases Nat.lt_trichotomy i k with h | h | h
        · have := hlow i h
          simp [hL, hlt] at h0 this
          rw [h0] at this; cases this
        · exact h
        · obtain ⟨e, he, hbd, hon⟩ := tailWaits_spec ht (by omega) ho k h
          have h1 := hpre e he hbd
          rw [hon] at h1
          have h2 := hhigh k (Nat.le_refl _) hkl
          simp [hL, hkl] at h1 h2
          rw [h1] at h2; cases h2
      subst hik
      rw [List.range'_succ, wpOps_cons] at hw
      refine wpOp_mono (fun a' w' h => ?_) hw
      refine ih (i + 1) fuel (L.setIfInBounds i true) a' w' (by omega) (by omega) (by omega) (by simp [hL]) (by omega) (fun j hj => ?_) (fun j hj hjl => ?_) h
      · by_cases e : i = j
        · subst e; simp [hL, hlt]
        · rw [getD_set_ne false e]; exact hlow j (by omega)
      · rw [getD_set_ne true (by omega)]; exact hhigh j (by omega) hjl

theorem wpAny_facts {m : Nat} (hml : m ≤ ops.size) (hd : dstsApart ops = true) (hb : edgesBack ops = true) (ht : tailWaits ops m = true) (Rel : World → World → Prop) (F : Nat → Value → World → Prop) {a0 : Act} {w0 : World}
    (trans : ∀ a b c, Rel a b → Rel b c → Rel a c) (stab : ∀ i v w w', Rel w w' → F i v w → F i v w')
    (steps : ∀ i o, i < m → ops[i]? = some o → ∀ (vals : Nat → Value) (w : World), Rel w0 w → (∀ e ∈ o.after, Region.binds .any e = true → F e.on (vals e.on) w) →
      ∀ K : Act → World → Prop, Shut (∀ v w', Rel w w' → F i v w' → K ((putAll ops a0 vals m).put o.dst v) w') →
        if Region.wanted o (yielded ops (putAll ops a0 vals m).tmps) = true then Oper.wp P o (putAll ops a0 vals m) w K Q else K ((putAll ops a0 vals m).put o.dst undef) w)
    (done : ∀ vals w, Rel w0 w → (∀ j, j < m → F j (vals j) w) → wpOps P ops Q (List.range' m (ops.size - m)) (putAll ops a0 vals m) w) :
    ∀ (fuel : Nat) (L : Array Bool) (vals : Nat → Value) (w : World), L.size = ops.size → unl ops L ≤ fuel → Rel w0 w → (∀ j, L.getD j false = true → F j (vals j) w) → (∀ j, m ≤ j → j < ops.size → L.getD j true = false) →
      wpAny P .any ops Q fuel L (putAll ops a0 vals m) w := by
  have all : ∀ L : Array Bool, L.size = ops.size → (∀ i ∈ Region.ready .any ops L, m ≤ i) → ∀ j, j < m → L.getD j false = true := by
    intro L hL hr j
    induction j using Nat.strongRecOn with
    | ind j ih =>
      intro hj
      rcases hc : L.getD j false with _ | _
      · exfalso
        have hjl : j < ops.size := by omega
        have hm : j ∈ Region.ready .any ops L := by
          refine mem_ready.2 ⟨?_, ops[j], Array.getElem?_eq_getElem hjl, fun e he hbd => ?_⟩
          · simp [hL, hjl] at hc ⊢; exact hc
          · have hlt := edgesBack_spec hb (Array.getElem?_eq_getElem hjl) e he hbd
            exact ih e.on hlt (by omega)
        have := hr j hm
        omega
      · rfl
  have unlm : ∀ L : Array Bool, L.size = ops.size → (∀ j, m ≤ j → j < ops.size → L.getD j true = false) → ops.size - m ≤ unl ops L := by
    intro L hL hh
    unfold unl
    have e : List.range ops.size = List.range m ++ List.range' m (ops.size - m) := by
      have h2 := List.range'_append_1 (s := 0) (m := m) (n := ops.size - m)
      rw [Nat.zero_add] at h2
      rw [List.range_eq_range', List.range_eq_range', h2]
      congr 1; omega
    rw [e, List.filter_append, List.length_append]
    have : (List.range' m (ops.size - m)).filter (fun i => !L.getD i true) = List.range' m (ops.size - m) := by
      rw [List.filter_eq_self]
      intro j hj
      have := List.mem_range'_1.1 hj
      simp [hh j this.1 (by omega)]
    rw [this, List.length_range']
    omega
  intro fuel
  induction fuel with
  | zero =>
    intro L vals w hL hu hR hF hH
    have h1 := unlm L hL hH
    have e : m = ops.size := by omega
    have hr : ∀ i ∈ Region.ready .any ops L, m ≤ i := by
      intro i hi
      exfalso
      obtain ⟨h0, o, ho, _⟩ := mem_ready.1 hi
      have := unl_set (ops := ops) (Array.getElem?_eq_some_iff.1 ho).1 hL h0
      omega
    have hlow := all L hL hr
    exact wpAny_tail hb ht (ops.size - m) m 0 L _ w rfl (Nat.le_refl _) hml hL (by omega) hlow hH (done vals w hR (fun j hj => hF j (hlow j hj)))
  | succ fuel ih =>
    intro L vals w hL hu hR hF hH
    by_cases hr : ∀ i ∈ Region.ready .any ops L, m ≤ i
    · have hlow := all L hL hr
      have h1 := unlm L hL hH
      exact wpAny_tail hb ht (ops.size - m) m (fuel + 1) L _ w rfl (Nat.le_refl _) hml hL (by omega) hlow hH (done vals w hR (fun j hj => hF j (hlow j hj)))
    · have hr' : ∃ i, i ∈ Region.ready .any ops L ∧ i < m := by
        rcases Classical.em (∃ i, i ∈ Region.ready .any ops L ∧ i < m) with h | h
        · exact h
        · exact (hr (fun i hi => by
            rcases Nat.lt_or_ge i m with h2 | h2
            · exact (h ⟨i, hi, h2⟩).elim
            · exact h2)).elim
      obtain ⟨i1, hi1, him1⟩ := hr'
      have hun1 := (mem_ready.1 hi1).1
      have hi1l : i1 < ops.size := by omega
      refine ⟨fun h => (by rw [h] at hi1; cases hi1), fun i hi => ?_⟩
      obtain ⟨h0, o, ho, hpre⟩ := mem_ready.1 hi
      have hlt : i < ops.size := (Array.getElem?_eq_some_iff.1 ho).1
      have him : i < m := by
        rcases Nat.lt_or_ge i m with h | h
        · exact h
        · exfalso
          obtain ⟨e, he, hbd, hon⟩ := tailWaits_spec ht h ho i1 (by omega)
          have h1 := hpre e he hbd
          rw [hon] at h1
          simp [hL, hi1l] at h1 hun1
          rw [h1] at hun1; cases hun1
      have hdst : o.dst = dstAt ops i := by simp [dstAt, ho]
      refine wpOp_step ho (fun K' hK => steps i o him ho vals w hR (fun e he hbd => hF _ (hpre e he hbd)) K' (fun v w' hr' hf => hK _ _ ?_))
      rw [hdst, putAll_upd hd _ hml him]
      refine ih (L.setIfInBounds i true) (upd vals i v) w' (by simp [hL]) (by have := unl_set (ops := ops) hlt hL h0; omega) (trans _ _ _ hR hr') (fun j hj => ?_) (fun j hj hjl => ?_)
      · unfold upd
        by_cases e : j = i
        · rw [if_pos e, e]; exact hf
        · rw [if_neg e]
          rw [getD_set_ne false (Ne.symm e)] at hj
          exact stab _ _ _ _ hr' (hF j hj)
      · rw [getD_set_ne true (by omega)]; exact hH j hj hjl

theorem unl_le (ops : Array Oper) (L : Array Bool) : unl ops L ≤ ops.size := by
  unfold unl
  refine Nat.le_trans (List.length_filter_le _ _) (by simp)

/-- the facts of the operations that come ahead -/
def Pre (F : Nat → Value → World → Prop) (vals : Nat → Value) (w : World) : List Edge → Prop
  | [] => True
  | e :: es => (Region.binds .any e = true → F e.on (vals e.on) w) ∧ Pre F vals w es
theorem Pre.of {F : Nat → Value → World → Prop} {vals : Nat → Value} {w : World} : ∀ (l : List Edge), (∀ e ∈ l, Region.binds .any e = true → F e.on (vals e.on) w) → Pre F vals w l
  | [], _ => trivial
  | e :: es, h => ⟨h e (by simp), Pre.of es (fun x hx => h x (by simp [hx]))⟩

/-- an operation is carried out, or passed over -/
def RunsOp (P : Program) (ops : Array Oper) (Q : Exit → Act → World → Prop) (o : Oper) (K : Act → World → Prop) (w : World) (a : Act) : Prop :=
  if Region.wanted o (yielded ops a.tmps) = true then Oper.wp P o a w K Q else K (a.put o.dst undef) w
/-- one operation does what is said of it, the frame written out -/
def Does2 (P : Program) (ops : Array Oper) (Q : Exit → Act → World → Prop) (fr : (Nat → Value) → Act) (w0 : World) (S : List Nat) (F : Nat → Value → World → Prop) (i : Nat) (o : Oper) : Prop :=
  ∀ (vals : Nat → Value) (w : World), Only S w0 w → Pre F vals w o.after.toList →
    ∀ K : Act → World → Prop, Shut (∀ a w', (∃ v, a = (fr vals).put o.dst v ∧ Only S w w' ∧ F i v w') → K a w') → RunsOp P ops Q o K w (fr vals)

theorem AllDo.mono {D E : Nat → Oper → Prop} (h : ∀ i o, D i o → E i o) : ∀ (l : List Oper) (k : Nat), AllDo D k l → AllDo E k l
  | [], _, _ => trivial
  | _ :: l, k, hD => ⟨h _ _ hD.1, AllDo.mono h l (k + 1) hD.2⟩

/-- A REGION THAT DRAWS ITS ORDER, BY ONE FACT AN OPERATION; from number m on the operations come up in the text's order -/
theorem wp_region_facts {id : Nat} {a0 : Act} {w0 : World} {fr : (Nat → Value) → Act} {tl : List Oper} (m : Nat) (S : List Nat) (F : Nat → Value → World → Prop) (hm : P.follows .mixedOrders = true) (hd : dstsApart ops = true) (hb : edgesBack ops = true)
    (ht : tailWaits ops m = true) (hml : m ≤ ops.size) (htl : ops.toList.drop m = tl)
    (hfr : ∀ vals, putAll ops a0 vals m = fr vals)
    (stab : ∀ i v w w', Only S w w' → F i v w → F i v w')
    (steps : AllDo (Does2 P ops Q fr w0.drew S F) 0 (ops.toList.take m))
    (done : ∀ vals w, Only S w0.drew w → (∀ j, j < m → F j (vals j) w) → wpList P ops Q tl (fr vals) w) : (Code.region id ops true).wp P Q a0 w0 := by
  refine wp_region_any hm ?_
  have hlen : tl.length = ops.size - m := by rw [← htl]; simp
  have h := wpAny_facts (P := P) (Q := Q) hml hd hb ht (Only S) F (a0 := a0) (w0 := w0.drew) (fun a b c h k => h.trans k (fun _ hx => .inl hx)) stab
    (fun i o him hio vals w hR hp K hK => by
      have hD := AllDo.at _ 0 steps i o (by rw [List.getElem?_take_of_lt him]; simpa using hio)
      rw [Nat.zero_add] at hD
      rw [hfr vals]
      exact hD vals w hR (Pre.of _ (fun e he => hp e (by simpa using he))) K (fun a w' ⟨v, ha, hr, hf⟩ => by rw [ha]; have := hK v w' hr hf; rwa [hfr vals] at this))
    (fun vals w hR hF => by
      rw [hfr vals, ← hlen, wpOps_eq_wpList tl m (fun j => by rw [← htl, List.getElem?_drop]; simp)]
      exact done vals w hR hF) ops.size (Array.replicate ops.size false) (fun j => match dstAt ops j with | some t => a0.tmps.getD t undef | none => undef) w0.drew (by simp) (unl_le _ _) (Only.refl _ _)
    (fun j hj => by
      exfalso
      rcases Nat.lt_or_ge j ops.size with h | h
      · simp [h] at hj
      · simp [h] at hj)
    (fun j _ hj => by simp [hj])
  rw [putAll_self] at h
  exact h
end
end Go.Kx
