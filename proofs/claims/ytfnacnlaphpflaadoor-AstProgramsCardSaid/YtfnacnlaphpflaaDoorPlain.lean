/- Values and types as trees; how they stand to each other: plain law. -/
import Derived.WalkKit
namespace Go.Val

inductive Vt where
  | mk (k n : Int) (s : List UInt8) (l : List Vt)
inductive Tt where
  | mk (k : Int) (l : List Tt)
instance : Inhabited Vt := ⟨.mk 0 0 [] []⟩
instance : Inhabited Tt := ⟨.mk 0 []⟩
def Vt.l : Vt → List Vt | .mk _ _ _ l => l
def Tt.l : Tt → List Tt | .mk _ l => l
theorem Vt.l_lt {e a : Vt} (h : a ∈ e.l) : SizeOf.sizeOf a < SizeOf.sizeOf e := by
  cases e
  have := List.sizeOf_lt_of_mem h
  simp [Vt.l] at this ⊢
  omega
theorem Tt.l_lt {e a : Tt} (h : a ∈ e.l) : SizeOf.sizeOf a < SizeOf.sizeOf e := by
  cases e
  have := List.sizeOf_lt_of_mem h
  simp [Tt.l] at this ⊢
  omega
theorem Vt.ind {p : Vt → Prop} (h : ∀ e, (∀ a ∈ e.l, p a) → p e) : ∀ e, p e := by
  intro e
  generalize hn : SizeOf.sizeOf e = n
  induction n using Nat.strongRecOn generalizing e with
  | ind n ih => exact h e (fun a ha => ih (SizeOf.sizeOf a) (hn ▸ Vt.l_lt ha) a rfl)
theorem Tt.ind {p : Tt → Prop} (h : ∀ e, (∀ a ∈ e.l, p a) → p e) : ∀ e, p e := by
  intro e
  generalize hn : SizeOf.sizeOf e = n
  induction n using Nat.strongRecOn generalizing e with
  | ind n ih => exact h e (fun a ha => ih (SizeOf.sizeOf a) (hn ▸ Tt.l_lt ha) a rfl)
/-! ### names -/
def letB (c : UInt8) : Bool := 97 ≤ c && c ≤ 122
def digB (c : UInt8) : Bool := 48 ≤ c && c ≤ 57
def nmAt (s : List UInt8) (k : Nat) : Bool := match s[k]? with | some c => letB c || (k != 0 && digB c) | none => true
/-- a name -/
def nameB (s : List UInt8) : Bool := decide (1 ≤ s.length) && decide (s.length ≤ 16) && (List.range s.length).all (nmAt s)
/-! ### right values, right types -/
def okN (k n : Int) (s : List UInt8) (m r : Nat) : Bool :=
  if k = 0 then s.length == 0 && m == 0
  else if k = 1 then (n == 0 || n == 1) && s.length == 0 && m == 0
  else if k = 2 then nameB s && n == 0 && m == 0
  else if k = 3 then n == 0 && s.length == 0 && decide (0 < r) && decide (1 ≤ m) && decide (m ≤ 4)
  else false
def okK (k : Int) (m r : Nat) : Bool :=
  if k = 0 ∨ k = 1 ∨ k = 2 then m == 0
  else if k = 3 then decide (0 < r) && decide (1 ≤ m) && decide (m ≤ 4)
  else false
def Vt.ok : Vt → Nat → Bool
  | .mk k n s l => fun r => okN k n s l.length r && (l.map Vt.ok).all (fun f => f (r - 1))
def Tt.ok : Tt → Nat → Bool
  | .mk k l => fun r => okK k l.length r && (l.map Tt.ok).all (fun f => f (r - 1))
theorem Vt.ok_mk (k n : Int) (s : List UInt8) (l : List Vt) (r : Nat) : (Vt.mk k n s l).ok r = (okN k n s l.length r && l.all (fun x => x.ok (r - 1))) := by
  rw [Vt.ok]
  simp only [List.all_map]
  rfl
theorem Tt.ok_mk (k : Int) (l : List Tt) (r : Nat) : (Tt.mk k l).ok r = (okK k l.length r && l.all (fun x => x.ok (r - 1))) := by
  rw [Tt.ok]
  simp only [List.all_map]
  rfl
/-- a value's type -/
def Vt.ty : Vt → Tt
  | .mk k _ _ l => .mk k (l.map Vt.ty)
theorem Vt.ty_mk (k n : Int) (s : List UInt8) (l : List Vt) : (Vt.mk k n s l).ty = .mk k (l.map Vt.ty) := by rw [Vt.ty]
theorem ty_ok : ∀ (v : Vt) (r : Nat), v.ok r = true → v.ty.ok r = true := by
  refine Vt.ind (fun v ih => ?_)
  intro r h
  obtain ⟨k, n, s, l⟩ := v
  rw [Vt.ok_mk, Bool.and_eq_true] at h
  rw [Vt.ty_mk, Tt.ok_mk, Bool.and_eq_true]
  constructor
  · have h1 := h.1
    unfold okN at h1
    unfold okK
    rw [List.length_map]
    split at h1
    · rename_i hk
      rw [if_pos (.inl hk)]
      simp at h1 ⊢
      exact h1.2
    · split at h1
      · rename_i hk
        rw [if_pos (.inr (.inl hk))]
        simp at h1 ⊢
        exact h1.2
      · split at h1
        · rename_i hk
          rw [if_pos (.inr (.inr hk))]
          simp at h1 ⊢
          exact h1.2
        · split at h1
          · rename_i h0 h1' h2 hk
            rw [if_neg (by omega), if_pos hk]
            simp at h1 ⊢
            exact ⟨⟨h1.1.1.2, h1.1.2⟩, h1.2⟩
          · cases h1
  · rw [List.all_eq_true]
    intro t ht
    obtain ⟨x, hx, rfl⟩ := List.mem_map.1 ht
    exact ih x (by simpa [Vt.l] using hx) (r - 1) (List.all_eq_true.1 h.2 x hx)
/-! ### alike -/
def alikeF {α : Type} : List (α → Bool) → List α → Bool
  | [], [] => true
  | f :: fs, a :: us => f a && alikeF fs us
  | _, _ => false
def Vt.same : Vt → Vt → Bool
  | .mk k n s l => fun | .mk k2 n2 s2 l2 => decide (k = k2) && decide (n = n2) && decide (s = s2) && alikeF (l.map Vt.same) l2
def Tt.same : Tt → Tt → Bool
  | .mk k l => fun | .mk k2 l2 => decide (k = k2) && alikeF (l.map Tt.same) l2
theorem Vt.same_mk (k n k2 n2 : Int) (s s2 : List UInt8) (l l2 : List Vt) : (Vt.mk k n s l).same (.mk k2 n2 s2 l2) = (decide (k = k2) && decide (n = n2) && decide (s = s2) && alikeF (l.map Vt.same) l2) := by rw [Vt.same]
theorem Tt.same_mk (k k2 : Int) (l l2 : List Tt) : (Tt.mk k l).same (.mk k2 l2) = (decide (k = k2) && alikeF (l.map Tt.same) l2) := by rw [Tt.same]
theorem alikeF_iff {α : Type} {c : α → α → Bool} : ∀ {l m : List α}, (∀ a ∈ l, ∀ b, c a b = true ↔ a = b) → (alikeF (l.map c) m = true ↔ l = m)
  | [], [], _ => by simp [alikeF]
  | [], _ :: _, _ => by simp [alikeF]
  | _ :: _, [], _ => by simp [alikeF]
  | a :: l, b :: m, h => by
    rw [List.map_cons, alikeF, Bool.and_eq_true, h a (by simp) b, alikeF_iff (fun x hx => h x (by simp [hx]))]
    simp
theorem Vt.same_iff : ∀ a b : Vt, a.same b = true ↔ a = b := by
  refine Vt.ind (fun a ih => ?_)
  intro b
  obtain ⟨k, n, s, l⟩ := a
  obtain ⟨k2, n2, s2, l2⟩ := b
  rw [Vt.same_mk, Bool.and_eq_true, alikeF_iff (fun x hx => ih x (by simpa [Vt.l] using hx))]
  simp [and_assoc]
theorem Tt.same_iff : ∀ a b : Tt, a.same b = true ↔ a = b := by
  refine Tt.ind (fun a ih => ?_)
  intro b
  obtain ⟨k, l⟩ := a
  obtain ⟨k2, l2⟩ := b
  rw [Tt.same_mk, Bool.and_eq_true, alikeF_iff (fun x hx => ih x (by simpa [Tt.l] using hx))]
  simp
/-! ### how they stand to each other -/
def cmpZ (a b : Int) : Int := if a < b then -1 else if b < a then 1 else 0
def orI (x y : Int) : Int := if x = 0 then y else x
def ordF {α : Type} : List (α → Int) → List α → Int
  | [], [] => 0
  | [], _ :: _ => -1
  | _ :: _, [] => 1
  | f :: fs, b :: bs => orI (f b) (ordF fs bs)
def cmpC (a b : UInt8) : Int := cmpZ a.toNat b.toNat
def cmpS (s t : List UInt8) : Int := ordF (s.map cmpC) t
def Vt.cmp : Vt → Vt → Int
  | .mk k n s l => fun | .mk k2 n2 s2 l2 => orI (cmpZ k k2) (orI (cmpZ n n2) (orI (cmpS s s2) (ordF (l.map Vt.cmp) l2)))
theorem Vt.cmp_mk (k n k2 n2 : Int) (s s2 : List UInt8) (l l2 : List Vt) : (Vt.mk k n s l).cmp (.mk k2 n2 s2 l2) = orI (cmpZ k k2) (orI (cmpZ n n2) (orI (cmpS s s2) (ordF (l.map Vt.cmp) l2))) := by rw [Vt.cmp]
/-- an order, as far as one thing goes -/
structure GoodAt {α : Type} (c : α → α → Int) (a : α) : Prop where
  rng : ∀ b, -1 ≤ c a b ∧ c a b ≤ 1
  zero : ∀ b, c a b = 0 ↔ a = b
  anti : ∀ b, c a b = - c b a
  trans : ∀ b d, c a b ≤ 0 → c b d ≤ 0 → c a d ≤ 0
theorem cmpZ_good (a : Int) : GoodAt cmpZ a where
  rng b := by unfold cmpZ; split <;> (try split) <;> omega
  zero b := by unfold cmpZ; split <;> (try split) <;> omega
  anti b := by unfold cmpZ; split <;> (try split) <;> (try split) <;> omega
  trans b d := by unfold cmpZ; split <;> (try split) <;> (try split) <;> (try split) <;> (try split) <;> (try split) <;> omega
theorem cmpC_good (a : UInt8) : GoodAt cmpC a where
  rng b := (cmpZ_good _).rng _
  zero b := by
    unfold cmpC
    rw [(cmpZ_good _).zero]
    constructor
    · intro h; exact UInt8.toNat_inj.1 (by omega)
    · rintro rfl; rfl
  anti b := (cmpZ_good _).anti _
  trans b d := (cmpZ_good _).trans _ _
theorem ordF_good {α : Type} {c : α → α → Int} : ∀ (l : List α), (∀ a ∈ l, GoodAt c a) → GoodAt (fun x y => ordF (x.map c) y) l
  | [], _ => by
    refine ⟨fun b => ?_, fun b => ?_, fun b => ?_, fun b d => ?_⟩
    · cases b <;> simp [ordF]
    · cases b <;> simp [ordF]
    · cases b <;> simp [ordF]
    · cases b <;> cases d <;> simp [ordF]
  | a :: l, h => by
    have ha := h a (by simp)
    have ih := ordF_good l (fun x hx => h x (by simp [hx]))
    refine ⟨fun b => ?_, fun b => ?_, fun b => ?_, fun b d => ?_⟩
    · cases b with
      | nil => simp [ordF]
      | cons b m =>
        have := ih.rng m
        have := ha.rng b
        simp only [List.map_cons, ordF, orI] at this ⊢
        split <;> omega
    · cases b with
      | nil => simp [ordF]
      | cons b m =>
        have h1 := ih.zero m
        have h2 := ha.zero b
        simp only [List.map_cons, ordF, orI] at h1 ⊢
        constructor
        · intro hz
          split at hz
          · rename_i h0
            rw [h2.1 h0, h1.1 hz]
          · omega
        · intro he
          injection he with e1 e2
          rw [if_pos (h2.2 e1), h1.2 e2]
    · cases b with
      | nil => simp [ordF]
      | cons b m =>
        have h1 := ih.anti m
        have h2 := ha.anti b
        simp only [List.map_cons, ordF, orI] at h1 ⊢
        by_cases h0 : c a b = 0
        · rw [if_pos h0, if_pos (by omega), h1]
        · rw [if_neg h0, if_neg (by omega), h2]
    · cases b with
      | nil => simp [ordF]
      | cons b m =>
        cases d with
        | nil =>
          intro h1 h2
          simp [ordF] at h2
        | cons d p =>
          intro h1 h2
          have t1 := ha.trans b d
          have t2 := ih.trans m p
          have za := ha.zero
          have na := ha.anti b
          have zb : c b d = 0 ∨ c b d ≠ 0 := by omega
          simp only [List.map_cons, ordF, orI] at h1 h2 t2 ⊢
          have hab : c a b ≤ 0 := by split at h1 <;> omega
          have hbd : c b d ≤ 0 := by split at h2 <;> omega
          have had := t1 hab hbd
          by_cases h0 : c a d = 0
          · rw [if_pos h0]
            have e := (za d).1 h0
            subst e
            have h3 : c a b = 0 := by omega
            have e2 := (za b).1 h3
            subst e2
            rw [if_pos h3] at h1 h2
            exact t2 h1 h2
          · rw [if_neg h0]
            exact had
theorem cmpS_good (s : List UInt8) : GoodAt cmpS s := ordF_good s (fun a _ => cmpC_good a)
theorem orI_le {x y : Int} : orI x y ≤ 0 ↔ x < 0 ∨ (x = 0 ∧ y ≤ 0) := by unfold orI; split <;> omega
theorem orI_zero {x y : Int} : orI x y = 0 ↔ x = 0 ∧ y = 0 := by unfold orI; split <;> omega
theorem Vt.cmp_good : ∀ a : Vt, GoodAt Vt.cmp a := by
  refine Vt.ind (fun a ih => ?_)
  obtain ⟨k, n, s, l⟩ := a
  have gk := cmpZ_good k
  have gn := cmpZ_good n
  have gs := cmpS_good s
  have gl := ordF_good (c := Vt.cmp) l (fun x hx => ih x (by simpa [Vt.l] using hx))
  refine ⟨fun b => ?_, fun b => ?_, fun b => ?_, fun b d => ?_⟩
  · obtain ⟨k2, n2, s2, l2⟩ := b
    rw [Vt.cmp_mk]
    have := gk.rng k2
    have := gn.rng n2
    have := gs.rng s2
    have h4 : -1 ≤ ordF (l.map Vt.cmp) l2 ∧ ordF (l.map Vt.cmp) l2 ≤ 1 := gl.rng l2
    unfold orI
    split <;> (try split) <;> (try split) <;> omega
  · obtain ⟨k2, n2, s2, l2⟩ := b
    rw [Vt.cmp_mk, orI_zero, orI_zero, orI_zero, gk.zero, gn.zero, gs.zero, show ordF (l.map Vt.cmp) l2 = 0 ↔ l = l2 from gl.zero l2]
    simp
  · obtain ⟨k2, n2, s2, l2⟩ := b
    rw [Vt.cmp_mk, Vt.cmp_mk]
    have h1 := gk.anti k2
    have h2 := gn.anti n2
    have h3 := gs.anti s2
    have h4 : ordF (l.map Vt.cmp) l2 = - ordF (l2.map Vt.cmp) l := gl.anti l2
    unfold orI
    split <;> (try split) <;> (try split) <;> (try split) <;> (try split) <;> (try split) <;> omega
  · obtain ⟨k2, n2, s2, l2⟩ := b
    obtain ⟨k3, n3, s3, l3⟩ := d
    rw [Vt.cmp_mk, Vt.cmp_mk, Vt.cmp_mk]
    simp only [orI_le]
    have t1 := gk.trans k2 k3
    have t2 := gn.trans n2 n3
    have t3 := gs.trans s2 s3
    have t4 : ordF (l.map Vt.cmp) l2 ≤ 0 → ordF (l2.map Vt.cmp) l3 ≤ 0 → ordF (l.map Vt.cmp) l3 ≤ 0 := gl.trans l2 l3
    have z1 := gk.zero k3
    have z2 := gn.zero n3
    have z3 := gs.zero s3
    have a1 := gk.anti k2
    have a2 := gn.anti n2
    have a3 := gs.anti s2
    have y1 := gk.zero k2
    have y2 := gn.zero n2
    have y3 := gs.zero s2
    have hd : ∀ x : Int, x ≤ 0 → x < 0 ∨ x = 0 := fun x h => by omega
    intro p q
    have pk : cmpZ k k2 ≤ 0 := by omega
    have qk : cmpZ k2 k3 ≤ 0 := by omega
    rcases hd _ (t1 pk qk) with h | h
    · exact .inl h
    · have e := z1.1 h
      subst e
      have h0 : cmpZ k k2 = 0 := by omega
      have e := y1.1 h0
      subst e
      refine .inr ⟨h, ?_⟩
      have pn : cmpZ n n2 ≤ 0 := by omega
      have qn : cmpZ n2 n3 ≤ 0 := by omega
      rcases hd _ (t2 pn qn) with h | h
      · exact .inl h
      · have e := z2.1 h
        subst e
        have h0 : cmpZ n n2 = 0 := by omega
        have e := y2.1 h0
        subst e
        refine .inr ⟨h, ?_⟩
        have ps : cmpS s s2 ≤ 0 := by omega
        have qs : cmpS s2 s3 ≤ 0 := by omega
        rcases hd _ (t3 ps qs) with h | h
        · exact .inl h
        · have e := z3.1 h
          subst e
          have h0 : cmpS s s2 = 0 := by omega
          have e := y3.1 h0
          subst e
          refine .inr ⟨h, ?_⟩
          exact t4 (by omega) (by omega)
end Go.Val
