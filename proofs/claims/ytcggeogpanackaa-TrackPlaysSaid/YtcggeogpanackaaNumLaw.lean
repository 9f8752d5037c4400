/- Numbers in places of 10000: plain. -/
import Derived.ProofKit
namespace Go.Kx

/-- the places of n, the least first; none is the last and nought -/
def toD (n : Nat) : List Nat := if h : n = 0 then [] else (n % 10000) :: toD (n / 10000)
termination_by n
decreasing_by omega

theorem toD_zero : toD 0 = [] := by rw [toD]; simp
theorem toD_pos {n : Nat} (h : 0 < n) : toD n = (n % 10000) :: toD (n / 10000) := by
  rw [toD]; rw [dif_neg (by omega)]

/-- what places come to -/
def dv : List Nat → Nat
  | [] => 0
  | d :: l => d + 10000 * dv l
theorem dv_append : ∀ l m : List Nat, dv (l ++ m) = dv l + 10000 ^ l.length * dv m
  | [], m => by simp [dv]
  | d :: l, m => by
    simp only [List.cons_append, dv, dv_append l m, List.length_cons, Nat.pow_succ]
    grind
theorem dv_snoc (l : List Nat) (d : Nat) : dv (l ++ [d]) = dv l + 10000 ^ l.length * d := by
  rw [dv_append]; simp [dv]
theorem dv_lt : ∀ {l : List Nat}, (∀ d ∈ l, d < 10000) → dv l < 10000 ^ l.length
  | [], _ => by simp [dv]
  | d :: l, h => by
    have h1 := h d (by simp)
    have h2 := dv_lt (l := l) (fun x hx => h x (by simp [hx]))
    simp only [dv, List.length_cons, Nat.pow_succ]
    omega
theorem dv_toD (n : Nat) : dv (toD n) = n := by
  induction n using Nat.strongRecOn with
  | ind n ih =>
    rcases Nat.eq_zero_or_pos n with h | h
    · subst h; rw [toD_zero]; rfl
    · rw [toD_pos h]
      simp only [dv]
      rw [ih (n / 10000) (by omega)]
      omega
theorem toD_lt (n : Nat) : ∀ d ∈ toD n, d < 10000 := by
  induction n using Nat.strongRecOn with
  | ind n ih =>
    rcases Nat.eq_zero_or_pos n with h | h
    · subst h; rw [toD_zero]; simp
    · rw [toD_pos h]
      intro d hd
      rcases List.mem_cons.1 hd with rfl | hd
      · exact Nat.mod_lt _ (by omega)
      · exact ih (n / 10000) (by omega) d hd
/-- places of which none is the last and nought are those of what they come to -/
theorem toD_dv : ∀ {l : List Nat}, (∀ d ∈ l, d < 10000) → l.getLast? ≠ some 0 → toD (dv l) = l
  | [], _, _ => by simp [dv, toD_zero]
  | [d], h, hl => by
    have h1 := h d (by simp)
    simp at hl
    simp only [dv]
    rw [toD_pos (by omega), show (d + 10000 * 0) % 10000 = d by omega, show (d + 10000 * 0) / 10000 = 0 by omega, toD_zero]
  | d :: e :: l, h, hl => by
    have h1 := h d (by simp)
    have ih := toD_dv (l := e :: l) (fun x hx => h x (by simp [hx])) (by simpa using hl)
    have hp : 0 < dv (e :: l) := by
      rcases Nat.eq_zero_or_pos (dv (e :: l)) with h0 | h0
      · rw [h0, toD_zero] at ih; simp at ih
      · exact h0
    have e1 : dv (d :: e :: l) = d + 10000 * dv (e :: l) := rfl
    rw [e1, toD_pos (by omega), show (d + 10000 * dv (e :: l)) % 10000 = d by omega, show (d + 10000 * dv (e :: l)) / 10000 = dv (e :: l) by omega, ih]
theorem toD_last (n : Nat) : (toD n).getLast? ≠ some 0 := by
  induction n using Nat.strongRecOn with
  | ind n ih =>
    rcases Nat.eq_zero_or_pos n with h | h
    · subst h; rw [toD_zero]; simp
    · rw [toD_pos h]
      rcases Nat.eq_zero_or_pos (n / 10000) with h0 | h0
      · rw [h0, toD_zero]; simp; omega
      · have := ih (n / 10000) (by omega)
        rw [List.getLast?_cons]
        intro e
        simp at e
        cases hh : (toD (n / 10000)).getLast? with
        | none => rw [List.getLast?_eq_none_iff, toD_pos h0] at hh; cases hh
        | some x => rw [hh] at this e; simp at this e; exact this e
theorem toD_nil_iff (n : Nat) : toD n = [] ↔ n = 0 := by
  constructor
  · intro h
    have := dv_toD n
    rw [h] at this
    exact this.symm
  · rintro rfl; exact toD_zero

/-- place i of n -/
theorem toD_at (n i : Nat) : (toD n)[i]?.getD 0 = n / 10000 ^ i % 10000 := by
  induction i generalizing n with
  | zero =>
    rcases Nat.eq_zero_or_pos n with h | h
    · subst h; rw [toD_zero]; simp
    · rw [toD_pos h]; simp
  | succ i ih =>
    rcases Nat.eq_zero_or_pos n with h | h
    · subst h; rw [toD_zero]; simp
    · rw [toD_pos h, List.getElem?_cons_succ, ih, Nat.div_div_eq_div_mul, Nat.pow_succ, Nat.mul_comm]
theorem toD_len (n i : Nat) : i < (toD n).length ↔ 10000 ^ i ≤ n := by
  induction i generalizing n with
  | zero =>
    rcases Nat.eq_zero_or_pos n with h | h
    · subst h; rw [toD_zero]; simp
    · rw [toD_pos h]; simp; omega
  | succ i ih =>
    rcases Nat.eq_zero_or_pos n with h | h
    · subst h; rw [toD_zero]
      have : 0 < 10000 ^ (i + 1) := Nat.pow_pos (by omega)
      simp
    · rw [toD_pos h, List.length_cons, Nat.succ_lt_succ_iff, ih, Nat.pow_succ, Nat.le_div_iff_mul_le (by omega)]
theorem toD_some {n i : Nat} (h : i < (toD n).length) : (toD n)[i]? = some (n / 10000 ^ i % 10000) := by
  have := toD_at n i
  rw [List.getElem?_eq_getElem h] at this ⊢
  simp at this
  rw [this]
theorem toD_len_le {n k : Nat} (h : n < 10000 ^ k) : (toD n).length ≤ k := by
  rcases Nat.lt_or_ge k (toD n).length with h1 | h1
  · have := (toD_len n k).1 h1; omega
  · exact h1
theorem lt_pow_len (n : Nat) : n < 10000 ^ (toD n).length := by
  rcases Nat.lt_or_ge n (10000 ^ (toD n).length) with h | h
  · exact h
  · have := (toD_len n (toD n).length).2 h; omega

/-- the first k places -/
def firstD (n k : Nat) : List Nat := (List.range k).map fun i => n / 10000 ^ i % 10000
theorem firstD_length (n k : Nat) : (firstD n k).length = k := by simp [firstD]
theorem firstD_zero (n : Nat) : firstD n 0 = [] := rfl
theorem firstD_succ (n k : Nat) : firstD n (k + 1) = firstD n k ++ [n / 10000 ^ k % 10000] := by simp [firstD, List.range_succ]
theorem firstD_lt (n k : Nat) : ∀ d ∈ firstD n k, d < 10000 := by
  intro d hd
  simp [firstD] at hd
  obtain ⟨i, _, rfl⟩ := hd
  exact Nat.mod_lt _ (by omega)
theorem dv_firstD (n k : Nat) : dv (firstD n k) = n % 10000 ^ k := by
  induction k with
  | zero => rw [firstD_zero]; simp [dv, Nat.mod_one]
  | succ k ih =>
    rw [firstD_succ, dv_snoc, ih, firstD_length, Nat.pow_succ, Nat.mod_mul]
theorem firstD_eq {n k : Nat} (h : n < 10000 ^ k) (h2 : k = 0 ∨ 10000 ^ (k - 1) ≤ n) : firstD n k = toD n := by
  have hl : (toD n).length = k := by
    refine Nat.le_antisymm (toD_len_le h) ?_
    rcases h2 with rfl | h2
    · omega
    · have := (toD_len n (k - 1)).2 h2; omega
  refine List.ext_getElem? fun i => ?_
  rcases Nat.lt_or_ge i k with hi | hi
  · rw [toD_some (by omega)]
    simp [firstD, hi]
  · rw [List.getElem?_eq_none (by rw [firstD_length]; exact hi), List.getElem?_eq_none (by rw [hl]; exact hi)]

/-- the carry of a sum's first k places -/
def carryD (a b k : Nat) : Nat := (a % 10000 ^ k + b % 10000 ^ k) / 10000 ^ k
theorem pow_pos_ (k : Nat) : 0 < 10000 ^ k := Nat.pow_pos (by omega)
theorem carryD_zero (a b : Nat) : carryD a b 0 = 0 := by simp [carryD, Nat.mod_one]
theorem carryD_le (a b k : Nat) : carryD a b k ≤ 1 := by
  unfold carryD
  have h1 := Nat.mod_lt a (pow_pos_ k)
  have h2 := Nat.mod_lt b (pow_pos_ k)
  have : (a % 10000 ^ k + b % 10000 ^ k) / 10000 ^ k < 2 := (Nat.div_lt_iff_lt_mul (pow_pos_ k)).2 (by omega)
  omega
theorem carryD_split (a b k : Nat) : a / 10000 ^ k + b / 10000 ^ k + carryD a b k = (a + b) / 10000 ^ k := by
  have p := pow_pos_ k
  unfold carryD
  generalize 10000 ^ k = P at *
  have e : a + b = (a % P + b % P) + P * (a / P + b / P) := by
    have h1 := Nat.div_add_mod a P
    have h2 := Nat.div_add_mod b P
    rw [Nat.mul_add]; omega
  rw [e, Nat.add_mul_div_left _ _ p]
  omega
theorem carryD_digit (a b k : Nat) : (a / 10000 ^ k % 10000 + b / 10000 ^ k % 10000 + carryD a b k) % 10000 = (a + b) / 10000 ^ k % 10000 := by
  rw [← carryD_split]; omega
theorem carryD_succ (a b k : Nat) : carryD a b (k + 1) = (a / 10000 ^ k % 10000 + b / 10000 ^ k % 10000 + carryD a b k) / 10000 := by
  have p := pow_pos_ k
  unfold carryD
  rw [Nat.pow_succ, Nat.mod_mul, Nat.mod_mul, ← Nat.div_div_eq_div_mul]
  generalize 10000 ^ k = P at *
  congr 1
  have : a % P + P * (a / P % 10000) + (b % P + P * (b / P % 10000)) = (a % P + b % P) + P * (a / P % 10000 + b / P % 10000) := by grind
  rw [this, Nat.add_mul_div_left _ _ p]; omega
theorem carryD_end {a b k : Nat} (ha : a < 10000 ^ k) (hb : b < 10000 ^ k) (h : carryD a b k = 0) : a + b < 10000 ^ k := by
  unfold carryD at h
  rw [Nat.mod_eq_of_lt ha, Nat.mod_eq_of_lt hb] at h
  rcases Nat.lt_or_ge (a + b) (10000 ^ k) with h1 | h1
  · exact h1
  · have := (Nat.le_div_iff_mul_le (k := 10000 ^ k) (x := 1) (y := a + b) (pow_pos_ k)).2 (by omega); omega
theorem carryD_low {a b k : Nat} (h : 10000 ^ k ≤ a ∨ 10000 ^ k ≤ b ∨ 0 < carryD a b k) : 10000 ^ k ≤ a + b := by
  rcases h with h | h | h
  · omega
  · omega
  · have h1 := (Nat.div_pos_iff.1 h).2
    have h2 := Nat.mod_le a (10000 ^ k)
    have h3 := Nat.mod_le b (10000 ^ k)
    omega

/-- the borrow of a difference's first k places -/
def borrowD (a b k : Nat) : Nat := if a % 10000 ^ k < b % 10000 ^ k then 1 else 0
theorem borrowD_zero (a b : Nat) : borrowD a b 0 = 0 := by simp [borrowD, Nat.mod_one]
theorem borrowD_le (a b k : Nat) : borrowD a b k ≤ 1 := by unfold borrowD; split <;> omega
theorem borrow_step {a b k : Nat} (h : b ≤ a) :
    (b / 10000 ^ k % 10000 + borrowD a b k ≤ a / 10000 ^ k % 10000 → borrowD a b (k + 1) = 0 ∧ (a - b) / 10000 ^ k % 10000 = a / 10000 ^ k % 10000 - borrowD a b k - b / 10000 ^ k % 10000) ∧
    (a / 10000 ^ k % 10000 < b / 10000 ^ k % 10000 + borrowD a b k → borrowD a b (k + 1) = 1 ∧ (a - b) / 10000 ^ k % 10000 = a / 10000 ^ k % 10000 + 10000 - borrowD a b k - b / 10000 ^ k % 10000) := by
  have p := pow_pos_ k
  unfold borrowD
  rw [Nat.pow_succ, Nat.mod_mul, Nat.mod_mul]
  generalize hP : 10000 ^ k = P at *
  obtain ⟨x, hx⟩ : ∃ x, x = a / P := ⟨_, rfl⟩
  obtain ⟨y, hy⟩ : ∃ y, y = b / P := ⟨_, rfl⟩
  obtain ⟨r, hr⟩ : ∃ r, r = a % P := ⟨_, rfl⟩
  obtain ⟨s, hs⟩ : ∃ s, s = b % P := ⟨_, rfl⟩
  have ha : a = P * x + r := by rw [hx, hr]; exact (Nat.div_add_mod a P).symm
  have hb : b = P * y + s := by rw [hy, hs]; exact (Nat.div_add_mod b P).symm
  have lr : r < P := hr ▸ Nat.mod_lt _ p
  have ls : s < P := hs ▸ Nat.mod_lt _ p
  rw [← hx, ← hy, ← hr, ← hs]
  have hxy : y ≤ x := by
    rw [hx, hy]; exact Nat.div_le_div_right h
  have hxy2 : r < s → y < x := by
    intro hrs
    rcases Nat.lt_or_ge y x with h1 | h1
    · exact h1
    · have : x = y := by omega
      subst this; omega
  have hq : (a - b) / P = x - y - (if r < s then 1 else 0) := by
    split
    · rename_i hrs
      have := hxy2 hrs
      have e : a - b = P * (x - y - 1) + (P + r - s) := by
        have : P * x = P * (x - y - 1) + P * y + P := by
          have e2 : x = (x - y - 1) + y + 1 := by omega
          conv => lhs; rw [e2]
          rw [Nat.mul_add, Nat.mul_add, Nat.mul_one]
        omega
      rw [e, Nat.mul_add_div p, Nat.div_eq_of_lt (by omega)]; omega
    · have e : a - b = P * (x - y) + (r - s) := by
        have : P * x = P * (x - y) + P * y := by rw [← Nat.mul_add]; congr 1; omega
        omega
      rw [e, Nat.mul_add_div p, Nat.div_eq_of_lt (by omega)]; omega
  rw [hq]
  have key : ∀ u v : Nat, (r + P * u < s + P * v ↔ (u < v ∨ (u = v ∧ r < s))) := by
    intro u v
    constructor
    · intro h1
      rcases Nat.lt_trichotomy u v with h2 | h2 | h2
      · exact .inl h2
      · subst h2; exact .inr ⟨rfl, by omega⟩
      · have : P * (v + 1) ≤ P * u := Nat.mul_le_mul_left _ h2
        rw [Nat.mul_add] at this; omega
    · rintro (h2 | ⟨rfl, h2⟩)
      · have : P * (u + 1) ≤ P * v := Nat.mul_le_mul_left _ h2
        rw [Nat.mul_add] at this; omega
      · omega
  have k1 := key (x % 10000) (y % 10000)
  by_cases hrs : r < s
  · have := hxy2 hrs
    rw [if_pos hrs] at *
    constructor
    · intro h1
      rw [if_neg (fun hh => by rcases k1.1 hh with h2 | h2 <;> omega)]
      exact ⟨rfl, by omega⟩
    · intro h1
      rw [if_pos (k1.2 (by omega))]
      exact ⟨rfl, by omega⟩
  · rw [if_neg hrs] at *
    constructor
    · intro h1
      rw [if_neg (fun hh => by rcases k1.1 hh with h2 | h2 <;> omega)]
      exact ⟨rfl, by omega⟩
    · intro h1
      rw [if_pos (k1.2 (by omega))]
      exact ⟨rfl, by omega⟩

/-- a place set anew -/
theorem dv_set : ∀ {l : List Nat} {j : Nat} (x : Nat) (h : j < l.length), dv (l.set j x) + 10000 ^ j * l[j] = dv l + 10000 ^ j * x
  | d :: l, 0, x, h => by simp [dv]; omega
  | d :: l, j + 1, x, h => by
    have ih := dv_set (l := l) (j := j) x (by simpa using h)
    simp only [List.set_cons_succ, dv, List.getElem_cons_succ, Nat.pow_succ]
    grind
theorem dv_zeros (n : Nat) : dv (List.replicate n 0) = 0 := by
  induction n with
  | zero => rfl
  | succ n ih => rw [List.replicate_succ]; simp [dv, ih]

/-- one place more of a product -/
theorem mul_step {l : List Nat} {j c d : Nat} (x b : Nat) (h : j < l.length) (hd : d = l[j] + c + x * b) : dv (l.set j (d % 10000)) + d / 10000 * 10000 ^ (j + 1) = dv l + c * 10000 ^ j + x * b * 10000 ^ j := by
  have h1 := dv_set (d % 10000) h
  have h2 : d = 10000 * (d / 10000) + d % 10000 := (Nat.div_add_mod d 10000).symm
  rw [Nat.pow_succ]
  generalize d / 10000 = q at *
  generalize d % 10000 = r at *
  generalize 10000 ^ j = P at *
  have h3 : P * d = P * l[j] + P * c + P * (x * b) := by rw [hd]; grind
  have h4 : P * d = P * (10000 * q) + P * r := by rw [h2]; grind
  grind

/-- a quotient, place by place -/
theorem div_step {a b i : Nat} (hb : 0 < b) : (a / 10000 ^ i) % b = (a / 10000 ^ i % 10000 + 10000 * (a / 10000 ^ (i + 1) % b)) % b ∧
    (a / b) / 10000 ^ i % 10000 = (a / 10000 ^ i % 10000 + 10000 * (a / 10000 ^ (i + 1) % b)) / b := by
  have e1 : a / b / 10000 ^ i = a / 10000 ^ i / b := by rw [Nat.div_div_eq_div_mul, Nat.div_div_eq_div_mul, Nat.mul_comm]
  have e2 : a / 10000 ^ (i + 1) = a / 10000 ^ i / 10000 := by rw [Nat.pow_succ, Nat.div_div_eq_div_mul]
  rw [e1, e2]
  generalize a / 10000 ^ i = x
  have h1 := Nat.div_add_mod (x / 10000) b
  have h3 := Nat.mod_lt (x / 10000) hb
  generalize x / 10000 % b = r at *
  generalize hq : x / 10000 / b = q at *
  have hx : x = (x % 10000 + 10000 * r) + b * (10000 * q) := by
    have h2 := Nat.div_add_mod x 10000
    rw [← h1] at h2
    grind
  constructor
  · conv => lhs; rw [hx]
    rw [Nat.add_mul_mod_self_left]
  · have hd : x / b = (x % 10000 + 10000 * r) / b + 10000 * q := by
      conv => lhs; rw [hx]
      rw [Nat.add_mul_div_left _ _ hb]
    rw [hd]
    have : (x % 10000 + 10000 * r) / b < 10000 := (Nat.div_lt_iff_lt_mul hb).2 (by
      have := Nat.mod_lt x (show 0 < 10000 by omega)
      have : 10000 * (r + 1) ≤ 10000 * b := Nat.mul_le_mul_left _ h3
      omega)
    rw [Nat.add_mul_mod_self_left, Nat.mod_eq_of_lt this]
end Go.Kx
