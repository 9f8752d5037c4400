/- The texts of values: two right values with the same text are the same; plain law. -/
import Derived.Test.YtgpljjejfebhoaaDoorPlain
import Derived.Lib.ItoaNum
import Derived.Lib.ItoaMem
namespace Go.Val
def truS : List UInt8 := [116, 114, 117, 101]
def falS : List UInt8 := [102, 97, 108, 115, 101]
def joinS : List (List UInt8) → List UInt8
  | [] => []
  | [a] => a
  | a :: b :: r => a ++ 44 :: 32 :: joinS (b :: r)
def tupS (ls : List (List UInt8)) : List UInt8 := 40 :: (joinS ls ++ (if ls.length = 1 then [44, 41] else [41]))
def Vt.txt : Vt → List UInt8
  | .mk k n s l => if k = 0 then Lib.itoa n else if k = 1 then (if n = 1 then truS else falS) else if k = 2 then 39 :: s else tupS (l.map Vt.txt)
theorem Vt.txt_mk (k n : Int) (s : List UInt8) (l : List Vt) : (Vt.mk k n s l).txt = if k = 0 then Lib.itoa n else if k = 1 then (if n = 1 then truS else falS) else if k = 2 then 39 :: s else tupS (l.map Vt.txt) := by rw [Vt.txt]
theorem Vt.txt0 (n : Int) (s : List UInt8) (l : List Vt) : (Vt.mk 0 n s l).txt = Lib.itoa n := by rw [Vt.txt_mk, if_pos rfl]
theorem Vt.txtT (s : List UInt8) (l : List Vt) : (Vt.mk 1 1 s l).txt = truS := by rw [Vt.txt_mk, if_neg (by decide), if_pos rfl, if_pos rfl]
theorem Vt.txtF (s : List UInt8) (l : List Vt) : (Vt.mk 1 0 s l).txt = falS := by rw [Vt.txt_mk, if_neg (by decide), if_pos rfl, if_neg (by decide)]
theorem Vt.txt2 (n : Int) (s : List UInt8) (l : List Vt) : (Vt.mk 2 n s l).txt = 39 :: s := by rw [Vt.txt_mk, if_neg (by decide), if_neg (by decide), if_pos rfl]
theorem Vt.txt3 (n : Int) (s : List UInt8) (l : List Vt) : (Vt.mk 3 n s l).txt = tupS (l.map Vt.txt) := by rw [Vt.txt_mk, if_neg (by decide), if_neg (by decide), if_neg (by decide)]
def Tt.txt : Tt → List UInt8
  | .mk k l => if k = 0 then [105, 110, 116] else if k = 1 then [98, 111, 111, 108] else if k = 2 then [115, 121, 109] else tupS (l.map Tt.txt)
theorem Tt.txt_mk (k : Int) (l : List Tt) : (Tt.mk k l).txt = if k = 0 then [105, 110, 116] else if k = 1 then [98, 111, 111, 108] else if k = 2 then [115, 121, 109] else tupS (l.map Tt.txt) := by rw [Tt.txt]
/-- what may stand behind a text -/
def Stop (x : List UInt8) : Prop := ∀ c r, x = c :: r → c = 44 ∨ c = 41
theorem munch {p : UInt8 → Bool} {a b x y : List UInt8} (ha : ∀ c ∈ a, p c = true) (hb : ∀ c ∈ b, p c = true) (hx : ∀ c r, x = c :: r → p c = false) (hy : ∀ c r, y = c :: r → p c = false) (h : a ++ x = b ++ y) : a = b ∧ x = y := by
  have e : ∀ (a x : List UInt8), (∀ c ∈ a, p c = true) → (∀ c r, x = c :: r → p c = false) → (a ++ x).takeWhile p = a := by
    intro a x h1 h2
    rw [List.takeWhile_append_of_pos h1]
    cases x with
    | nil => simp
    | cons c r => rw [List.takeWhile_cons_of_neg (by rw [h2 c r rfl]; decide)]; simp
  have h3 := e a x ha hx
  rw [h, e b y hb hy] at h3
  subst h3
  exact ⟨rfl, List.append_cancel_left h⟩
/-! ### numbers -/
def numB (c : UInt8) : Bool := c == 45 || (48 ≤ c && c ≤ 57)
def dval (l : List UInt8) : Nat := l.foldl (fun a c => a * 10 + (c.toNat - 48)) 0
theorem dig_toNat {d : Nat} (h : d < 10) : (UInt8.ofNat (48 + d)).toNat = 48 + d := by
  simp [UInt8.toNat_ofNat']
  omega
theorem dval_dec : ∀ u : Nat, dval (Lib.decDigits u) = u ∧ ∀ c ∈ Lib.decDigits u, (48 ≤ c && c ≤ 57) = true := by
  intro u
  induction u using Nat.strongRecOn with
  | ind u ih =>
    rw [Lib.decDigits]
    have key : ∀ d, d < 10 → ((48 : UInt8) ≤ UInt8.ofNat (48 + d) && UInt8.ofNat (48 + d) ≤ 57) = true := by
      intro d hd
      have e := dig_toNat hd
      rw [Bool.and_eq_true, decide_eq_true_eq, decide_eq_true_eq, UInt8.le_iff_toNat_le, UInt8.le_iff_toNat_le, e]
      have e1 : (48 : UInt8).toNat = 48 := rfl
      have e2 : (57 : UInt8).toNat = 57 := rfl
      omega
    by_cases h : u < 10
    · rw [dif_pos h]
      refine ⟨?_, fun c hc => ?_⟩
      · have e := dig_toNat h
        show 0 * 10 + ((UInt8.ofNat (48 + u)).toNat - 48) = u
        omega
      · rw [List.mem_singleton.1 hc]
        exact key u h
    · rw [dif_neg h]
      obtain ⟨i1, i2⟩ := ih (u / 10) (by omega)
      refine ⟨?_, fun c hc => ?_⟩
      · unfold dval at i1 ⊢
        rw [List.foldl_append, i1]
        have e := dig_toNat (d := u % 10) (by omega)
        show u / 10 * 10 + ((UInt8.ofNat (48 + u % 10)).toNat - 48) = u
        omega
      · rcases List.mem_append.1 hc with hc | hc
        · exact i2 c hc
        · rw [List.mem_singleton.1 hc]
          exact key _ (by omega)
theorem dec_ne (u : Nat) : Lib.decDigits u ≠ [] := by
  rw [Lib.decDigits]
  split <;> simp
theorem itoa_form (n : Int) : (0 ≤ n ∧ Lib.itoa n = Lib.decDigits n.toNat) ∨ (n < 0 ∧ Lib.itoa n = 45 :: Lib.decDigits (-n).toNat) := by
  by_cases h : 0 ≤ n
  · left
    obtain ⟨u, rfl⟩ : ∃ u : Nat, n = (u : Int) := ⟨n.toNat, by omega⟩
    exact ⟨h, by rw [Lib.itoa_nonneg]; rfl⟩
  · right
    obtain ⟨u, rfl⟩ : ∃ u : Nat, n = -(u : Int) := ⟨(-n).toNat, by omega⟩
    refine ⟨by omega, ?_⟩
    rw [Lib.itoa_neg u (by omega)]
    congr 2
    omega
theorem itoa_num (n : Int) : ∀ c ∈ Lib.itoa n, numB c = true := by
  intro c hc
  unfold numB
  rcases itoa_form n with ⟨_, h⟩ | ⟨_, h⟩
  · rw [h] at hc
    rw [(dval_dec _).2 c hc, Bool.or_true]
  · rw [h] at hc
    rcases List.mem_cons.1 hc with rfl | hc
    · rfl
    · rw [(dval_dec _).2 c hc, Bool.or_true]
theorem dec_not45 {u : Nat} {r : List UInt8} (h : Lib.decDigits u = 45 :: r) : False := by
  have := (dval_dec u).2 45 (by rw [h]; simp)
  exact absurd this (by decide)
theorem itoa_inj {n m : Int} (h : Lib.itoa n = Lib.itoa m) : n = m := by
  rcases itoa_form n with ⟨h1, e1⟩ | ⟨h1, e1⟩ <;> rcases itoa_form m with ⟨h2, e2⟩ | ⟨h2, e2⟩
  · rw [e1, e2] at h
    have := congrArg dval h
    rw [(dval_dec _).1, (dval_dec _).1] at this
    omega
  · rw [e1, e2] at h
    exact (dec_not45 h).elim
  · rw [e1, e2] at h
    exact (dec_not45 h.symm).elim
  · rw [e1, e2] at h
    injection h with _ h
    have := congrArg dval h
    rw [(dval_dec _).1, (dval_dec _).1] at this
    omega
theorem itoa_head (n : Int) : ∃ c r, Lib.itoa n = c :: r ∧ numB c = true := by
  cases h : Lib.itoa n with
  | nil =>
    exfalso
    rcases itoa_form n with ⟨_, e⟩ | ⟨_, e⟩
    · rw [e] at h; exact dec_ne _ h
    · rw [e] at h; cases h
  | cons c r => exact ⟨c, r, rfl, itoa_num n c (by rw [h]; simp)⟩
theorem Stop.notNum {x : List UInt8} (h : Stop x) : ∀ c r, x = c :: r → numB c = false := fun c r e => by
  rcases h c r e with rfl | rfl <;> decide
def chB (c : UInt8) : Bool := letB c || digB c
theorem Stop.notCh {x : List UInt8} (h : Stop x) : ∀ c r, x = c :: r → chB c = false := fun c r e => by
  rcases h c r e with rfl | rfl <;> decide
theorem name_ch {s : List UInt8} (h : nameB s = true) : ∀ c ∈ s, chB c = true := by
  intro c hc
  unfold nameB at h
  rw [Bool.and_eq_true] at h
  obtain ⟨i, hi⟩ := List.mem_iff_getElem?.1 hc
  have hil := (List.getElem?_eq_some_iff.1 hi).1
  have := List.all_eq_true.1 h.2 i (List.mem_range.2 hil)
  unfold nmAt at this
  rw [hi] at this
  unfold chB
  simp only [Bool.or_eq_true, Bool.and_eq_true] at this ⊢
  rcases this with h | ⟨_, h⟩
  · exact .inl h
  · exact .inr h
/-! ### tuples -/
def tl2 : List (List UInt8) → List UInt8
  | [] => [41]
  | c :: r => 44 :: 32 :: (c ++ tl2 r)
theorem join_cons (a : List UInt8) : ∀ r : List (List UInt8), joinS (a :: r) ++ [41] = a ++ tl2 r
  | [] => rfl
  | b :: r => by
    have := join_cons b r
    show (a ++ 44 :: 32 :: joinS (b :: r)) ++ [41] = a ++ 44 :: 32 :: (b ++ tl2 r)
    rw [← this]
    simp
theorem tup_cons (a : List UInt8) (r : List (List UInt8)) : tupS (a :: r) = 40 :: (a ++ (if r = [] then [44, 41] else tl2 r)) := by
  unfold tupS
  cases r with
  | nil => rfl
  | cons b r =>
    rw [if_neg (by simp), if_neg (by simp), join_cons]
theorem tl2_stop (l : List (List UInt8)) (x : List UInt8) : Stop (tl2 l ++ x) := by
  intro c r h
  cases l with
  | nil => injection h with h; exact .inr h.symm
  | cons a l => injection h with h; exact .inl h.symm
/-- a text tells its value -/
def Tells (a : Vt) : Prop := ∀ (r r2 : Nat) (b : Vt) (x y : List UInt8), a.ok r = true → b.ok r2 = true → Stop x → Stop y → a.txt ++ x = b.txt ++ y → a = b ∧ x = y
theorem tl2_inj : ∀ (l : List Vt) (r r2 : Nat) (m : List Vt) (x y : List UInt8), (∀ a ∈ l, Tells a) → (∀ a ∈ l, a.ok r = true) → (∀ b ∈ m, b.ok r2 = true) → tl2 (l.map Vt.txt) ++ x = tl2 (m.map Vt.txt) ++ y → l = m ∧ x = y
  | [], _, _, [], x, y, _, _, _, h => by injection h with _ h; exact ⟨rfl, h⟩
  | [], _, _, b :: m, x, y, _, _, _, h => by injection h with h; exact absurd h (by decide)
  | a :: l, _, _, [], x, y, _, _, _, h => by injection h with h; exact absurd h (by decide)
  | a :: l, r, r2, b :: m, x, y, ht, ha, hb, h => by
    injection h with _ h
    injection h with _ h
    have h2 : a.txt ++ (tl2 (l.map Vt.txt) ++ x) = b.txt ++ (tl2 (m.map Vt.txt) ++ y) := by
      rw [← List.append_assoc, ← List.append_assoc]; exact h
    obtain ⟨e1, e2⟩ := ht a (by simp) r r2 b _ _ (ha a (by simp)) (hb b (by simp)) (tl2_stop _ _) (tl2_stop _ _) h2
    obtain ⟨e3, e4⟩ := tl2_inj l r r2 m x y (fun z hz => ht z (by simp [hz])) (fun z hz => ha z (by simp [hz])) (fun z hz => hb z (by simp [hz])) e2
    exact ⟨by rw [e1, e3], e4⟩
/-- the kinds of right values -/
theorem ok_cases {k n : Int} {s : List UInt8} {l : List Vt} {r : Nat} (h : (Vt.mk k n s l).ok r = true) :
    (k = 0 ∧ s = [] ∧ l = []) ∨ (k = 1 ∧ (n = 0 ∨ n = 1) ∧ s = [] ∧ l = []) ∨ (k = 2 ∧ nameB s = true ∧ n = 0 ∧ l = []) ∨ (k = 3 ∧ n = 0 ∧ s = [] ∧ 0 < r ∧ 1 ≤ l.length ∧ l.length ≤ 4 ∧ ∀ x ∈ l, x.ok (r - 1) = true) := by
  rw [Vt.ok_mk, Bool.and_eq_true] at h
  obtain ⟨h1, h2⟩ := h
  have h3 := List.all_eq_true.1 h2
  unfold okN at h1
  split at h1
  · rename_i hk
    simp at h1
    exact .inl ⟨hk, h1.1, h1.2⟩
  · split at h1
    · rename_i hk
      simp at h1
      exact .inr (.inl ⟨hk, h1.1.1, h1.1.2, h1.2⟩)
    · split at h1
      · rename_i hk
        simp at h1
        exact .inr (.inr (.inl ⟨hk, h1.1.1, h1.1.2, h1.2⟩))
      · split at h1
        · rename_i hk
          simp at h1
          exact .inr (.inr (.inr ⟨hk, h1.1.1.1.1, h1.1.1.1.2, h1.1.1.2, h1.1.2, h1.2, h3⟩))
        · cases h1
/-- the first letter -/
def headOf (k : Int) (c : UInt8) : Prop := (k = 0 ∧ numB c = true) ∨ (k = 1 ∧ (c = 116 ∨ c = 102)) ∨ (k = 2 ∧ c = 39) ∨ (k = 3 ∧ c = 40)
theorem head_of {k n : Int} {s : List UInt8} {l : List Vt} {r : Nat} (h : (Vt.mk k n s l).ok r = true) : ∃ c t, (Vt.mk k n s l).txt = c :: t ∧ headOf k c := by
  rcases ok_cases h with ⟨rfl, _⟩ | ⟨rfl, rfl | rfl, _⟩ | ⟨rfl, _⟩ | ⟨rfl, _⟩
  · obtain ⟨c, t, e, hc⟩ := itoa_head n
    exact ⟨c, t, by rw [Vt.txt0, e], .inl ⟨rfl, hc⟩⟩
  · exact ⟨102, _, by rw [Vt.txtF]; rfl, .inr (.inl ⟨rfl, .inr rfl⟩)⟩
  · exact ⟨116, _, by rw [Vt.txtT]; rfl, .inr (.inl ⟨rfl, .inl rfl⟩)⟩
  · exact ⟨39, s, by rw [Vt.txt2], .inr (.inr (.inl ⟨rfl, rfl⟩))⟩
  · exact ⟨40, _, by rw [Vt.txt3]; rfl, .inr (.inr (.inr ⟨rfl, rfl⟩))⟩
theorem head_kind {k k2 : Int} {c : UInt8} (h : headOf k c) (h2 : headOf k2 c) : k = k2 := by
  have n1 : numB 116 = false := by decide
  have n2 : numB 102 = false := by decide
  have n3 : numB 39 = false := by decide
  have n4 : numB 40 = false := by decide
  rcases h with ⟨rfl, h⟩ | ⟨rfl, h | h⟩ | ⟨rfl, h⟩ | ⟨rfl, h⟩ <;> rcases h2 with ⟨rfl, h2⟩ | ⟨rfl, h2 | h2⟩ | ⟨rfl, h2⟩ | ⟨rfl, h2⟩ <;> first | rfl | (subst h; simp_all) | (subst h2; simp_all)
theorem tells : ∀ a : Vt, Tells a := by
  refine Vt.ind (fun a ih => ?_)
  intro r r2 b x y ha hb hx hy h
  obtain ⟨k, n, s, l⟩ := a
  obtain ⟨k2, n2, s2, l2⟩ := b
  have hk : k = k2 := by
    obtain ⟨c, t, e, hc⟩ := head_of ha
    obtain ⟨c2, t2, e2, hc2⟩ := head_of hb
    rw [e, e2] at h
    injection h with h
    subst h
    exact head_kind hc hc2
  subst hk
  rcases ok_cases ha with ⟨rfl, rfl, rfl⟩ | ⟨rfl, hn, rfl, rfl⟩ | ⟨rfl, hs, rfl, rfl⟩ | ⟨rfl, rfl, rfl, _, hl1, _, hla⟩
  · rcases ok_cases hb with ⟨_, rfl, rfl⟩ | ⟨h0, _⟩ | ⟨h0, _⟩ | ⟨h0, _⟩
    · rw [Vt.txt0, Vt.txt0] at h
      obtain ⟨e1, e2⟩ := munch (itoa_num n) (itoa_num n2) hx.notNum hy.notNum h
      exact ⟨by rw [itoa_inj e1], e2⟩
    all_goals exact absurd h0 (by decide)
  · rcases ok_cases hb with ⟨h0, _⟩ | ⟨_, hn2, rfl, rfl⟩ | ⟨h0, _⟩ | ⟨h0, _⟩
    · exact absurd h0 (by decide)
    · rcases hn with rfl | rfl <;> rcases hn2 with rfl | rfl
      · exact ⟨rfl, List.append_cancel_left h⟩
      · rw [Vt.txtF, Vt.txtT] at h
        injection h with h
        exact absurd h (by decide)
      · rw [Vt.txtF, Vt.txtT] at h
        injection h with h
        exact absurd h (by decide)
      · exact ⟨rfl, List.append_cancel_left h⟩
    all_goals exact absurd h0 (by decide)
  · rcases ok_cases hb with ⟨h0, _⟩ | ⟨h0, _⟩ | ⟨_, hs2, rfl, rfl⟩ | ⟨h0, _⟩
    · exact absurd h0 (by decide)
    · exact absurd h0 (by decide)
    · rw [Vt.txt2, Vt.txt2] at h
      injection h with _ h
      obtain ⟨e1, e2⟩ := munch (name_ch hs) (name_ch hs2) hx.notCh hy.notCh h
      exact ⟨by rw [e1], e2⟩
    · exact absurd h0 (by decide)
  · rcases ok_cases hb with ⟨h0, _⟩ | ⟨h0, _⟩ | ⟨h0, _⟩ | ⟨_, rfl, rfl, _, hl2, _, hlb⟩
    · exact absurd h0 (by decide)
    · exact absurd h0 (by decide)
    · exact absurd h0 (by decide)
    · rw [Vt.txt3, Vt.txt3] at h
      cases l with
      | nil => simp at hl1
      | cons a l =>
        cases l2 with
        | nil => simp at hl2
        | cons b l2 =>
          rw [List.map_cons, List.map_cons, tup_cons, tup_cons] at h
          injection h with _ h
          have st : ∀ (m : List (List UInt8)) (z : List UInt8), Stop ((if m = [] then [44, 41] else tl2 m) ++ z) := by
            intro m z
            split
            · intro c t e; injection e with e; exact .inl e.symm
            · exact tl2_stop _ _
          replace h : (a.txt ++ (if List.map Vt.txt l = [] then [44, 41] else tl2 (List.map Vt.txt l))) ++ x = (b.txt ++ (if List.map Vt.txt l2 = [] then [44, 41] else tl2 (List.map Vt.txt l2))) ++ y := h
          rw [List.append_assoc, List.append_assoc] at h
          obtain ⟨e1, e2⟩ := ih a (by simp [Vt.l]) (r - 1) (r2 - 1) b _ _ (hla a (by simp)) (hlb b (by simp)) (st _ _) (st _ _) h
          subst e1
          cases l with
          | nil =>
            cases l2 with
            | nil =>
              injection e2 with _ e2
              injection e2 with _ e2
              exact ⟨rfl, e2⟩
            | cons c l2 =>
              exfalso
              injection e2 with _ e2
              injection e2 with e2
              exact absurd e2 (by decide)
          | cons c l =>
            cases l2 with
            | nil =>
              exfalso
              injection e2 with _ e2
              injection e2 with e2
              exact absurd e2 (by decide)
            | cons d l2 =>
              rw [if_neg (by simp), if_neg (by simp)] at e2
              obtain ⟨e3, e4⟩ := tl2_inj (c :: l) (r - 1) (r2 - 1) (d :: l2) x y (fun z hz => ih z (by simp only [Vt.l]; exact List.mem_cons_of_mem _ hz)) (fun z hz => hla z (List.mem_cons_of_mem _ hz)) (fun z hz => hlb z (List.mem_cons_of_mem _ hz)) e2
              exact ⟨by rw [e3], e4⟩
theorem txt_inj {a b : Vt} {r r2 : Nat} (ha : a.ok r = true) (hb : b.ok r2 = true) (h : a.txt = b.txt) : a = b :=
  (tells a r r2 b [] [] ha hb (fun _ _ h => by cases h) (fun _ _ h => by cases h) (by rw [h])).1
end Go.Val
