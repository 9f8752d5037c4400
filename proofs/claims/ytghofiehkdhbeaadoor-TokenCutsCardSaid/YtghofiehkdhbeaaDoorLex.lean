/- The words of a text: plain law. -/
import Derived.WalkKit
namespace Go.Tok

def isLet (c : UInt8) : Bool := decide (97 ≤ c.toNat) && decide (c.toNat ≤ 122)
def isDig (c : UInt8) : Bool := decide (48 ≤ c.toNat) && decide (c.toNat ≤ 57)
def isAl (c : UInt8) : Bool := isLet c || isDig c
def isBlank (c : UInt8) : Bool := decide (c.toNat = 32) || decide (c.toNat = 9) || decide (c.toNat = 10)
/-- how many bytes stand ahead of a word (true: within a remark) -/
def sk : Bool → List UInt8 → Nat
  | _, [] => 0
  | true, c :: r => if c.toNat = 10 then 1 + sk false r else 1 + sk true r
  | false, c :: r => if isBlank c then 1 + sk false r else if c.toNat = 35 then 1 + sk true r else 0
structure Tok where
  kind : Nat
  s : List UInt8
  n : Nat
deriving DecidableEq
inductive Wd where
  | bad (e : Nat)
  | ok (t : Tok) (len : Nat)
def ones : List Nat := [123, 125, 40, 41, 44, 59, 58, 46, 61, 60, 43, 45, 42, 47, 37]
def two (a b : UInt8) : Bool := (decide (a.toNat = 45) && decide (b.toNat = 62)) || (decide (a.toNat = 60) && decide (b.toNat = 61))
def one (a : UInt8) : Bool := ones.contains a.toNat
/-- how long the mark is that stands ahead -/
def markLen : List UInt8 → Nat
  | [] => 0
  | [a] => if one a then 1 else 0
  | a :: b :: _ => if two a b then 2 else if one a then 1 else 0
def run (p : UInt8 → Bool) (l : List UInt8) : List UInt8 := l.takeWhile p
def first (p : UInt8 → Bool) : List UInt8 → Bool
  | [] => false
  | c :: _ => p c
def isZero (c : UInt8) : Bool := decide (c.toNat = 48)
def nameW (kind k : Nat) (l : List UInt8) : Wd :=
  if first isLet l then (if 16 < (run isAl l).length then .bad 9 else .ok ⟨kind, run isAl l, 0⟩ (k + (run isAl l).length)) else .bad 5
def digit (c : UInt8) : Nat := c.toNat - 48
def val (l : List UInt8) : Nat := l.foldl (fun n c => 10 * n + digit c) 0
def big : Nat := 9223372036854775807
def numW (l : List UInt8) : Wd :=
  if first isZero l ∧ 1 < (run isDig l).length then .bad 6 else if big < val (run isDig l) then .bad 2 else .ok ⟨1, [], val (run isDig l)⟩ (run isDig l).length
def markW (l : List UInt8) : Wd := if markLen l = 0 then .bad 5 else .ok ⟨3, l.take (markLen l), 0⟩ (markLen l)
def wordW : List UInt8 → Wd
  | [] => .ok ⟨4, [], 0⟩ 0
  | c :: r => if isLet c then nameW 0 0 (c :: r) else if c.toNat = 39 then nameW 2 1 r else if isDig c then numW (c :: r) else markW (c :: r)
/-- a word and its place -/
structure Word where
  t : Tok
  at_ : Nat
deriving DecidableEq
abbrev Out := List Word × Option (Nat × Nat)
def Out.add (w : Word) (o : Out) : Out := (w :: o.1, o.2)
def scanF : Nat → List UInt8 → Nat → Out
  | 0, _, _ => ([], none)
  | f + 1, l, p => match wordW (l.drop (sk false l)) with
    | .bad e => ([], some (p + sk false l, e))
    | .ok t n => if t.kind = 4 then ([⟨t, p + sk false l⟩], none) else (scanF f (l.drop (sk false l + n)) (p + (sk false l + n))).add ⟨t, p + sk false l⟩
def scanL (l : List UInt8) (p : Nat) : Out := scanF (l.length + 1) l p

/-! ### words -/
theorem run_le (p : UInt8 → Bool) (l : List UInt8) : (run p l).length ≤ l.length := by
  unfold run; exact (List.takeWhile_sublist p).length_le
theorem run_first {p q : UInt8 → Bool} (hpq : ∀ c, p c = true → q c = true) {l : List UInt8} (h : first p l = true) : 0 < (run q l).length := by
  cases l with
  | nil => cases h
  | cons c r => unfold run; rw [List.takeWhile_cons, if_pos (hpq c h)]; simp
theorem run_pre (p : UInt8 → Bool) (l : List UInt8) : l.take (run p l).length = run p l := by
  unfold run
  induction l with
  | nil => rfl
  | cons c r ih =>
    rw [List.takeWhile_cons]
    split
    · simp [ih]
    · rfl
theorem markLen_le (l : List UInt8) : markLen l ≤ l.length := by
  match l with
  | [] => simp [markLen]
  | [a] => simp only [markLen]; split <;> simp
  | a :: b :: r => simp only [markLen]; split <;> (try split) <;> simp
theorem let_al {c : UInt8} (h : isLet c = true) : isAl c = true := by unfold isAl; rw [h]; rfl
/-- what is said of a word that there is -/
theorem word_len {l : List UInt8} {t : Tok} {n : Nat} (h : wordW l = .ok t n) : n ≤ l.length ∧ (t.kind = 4 ↔ l = []) ∧ (t.kind ≠ 4 → 0 < n) ∧ t.kind ≤ 4 := by
  cases l with
  | nil => simp only [wordW] at h; injection h with h1 h2; subst h1 h2; simp
  | cons c r =>
    simp only [wordW] at h
    split at h
    · rename_i hl
      unfold nameW at h
      split at h
      · split at h
        · cases h
        · rename_i hf hs
          injection h with h1 h2
          subst h1 h2
          have := run_first (q := isAl) (fun c => let_al) hf
          have := run_le isAl (c :: r)
          simp; simp at this; omega
      · cases h
    · split at h
      · unfold nameW at h
        split at h
        · split at h
          · cases h
          · rename_i hf hs
            injection h with h1 h2
            subst h1 h2
            have := run_le isAl r
            simp; omega
        · cases h
      · split at h
        · rename_i hd
          unfold numW at h
          split at h
          · cases h
          · split at h
            · cases h
            · injection h with h1 h2
              subst h1 h2
              have := run_first (p := isDig) (q := isDig) (fun c h => h) (l := c :: r) hd
              have := run_le isDig (c :: r)
              simp; simp at this; omega
        · unfold markW at h
          split at h
          · cases h
          · injection h with h1 h2
            subst h1 h2
            have := markLen_le (c :: r)
            simp; simp at this; omega
theorem sk_le (b : Bool) (l : List UInt8) : sk b l ≤ l.length := by
  induction l generalizing b with
  | nil => cases b <;> simp [sk]
  | cons c r ih =>
    have h1 := ih true
    have h2 := ih false
    cases b
    · simp only [sk, List.length_cons]; split <;> (try split) <;> omega
    · simp only [sk, List.length_cons]; split <;> omega
theorem scanF_enough : ∀ (f g : Nat) (l : List UInt8) (p : Nat), l.length < f → l.length < g → scanF f l p = scanF g l p
  | 0, _, _, _, h, _ => by omega
  | _ + 1, 0, _, _, _, h => by omega
  | f + 1, g + 1, l, p, h, k => by
    simp only [scanF]
    cases hw : wordW (l.drop (sk false l)) with
    | bad e => rfl
    | ok t n =>
      obtain ⟨h1, h2, h3, _⟩ := word_len hw
      simp only
      split
      · rfl
      · rename_i h4
        have := h3 h4
        have hne : l.drop (sk false l) ≠ [] := fun e => h4 (h2.2 e)
        rw [List.length_drop] at h1
        rw [scanF_enough f g _ _ (by rw [List.length_drop]; omega) (by rw [List.length_drop]; omega)]
theorem scanL_eq (l : List UInt8) (p : Nat) : scanL l p = match wordW (l.drop (sk false l)) with
    | .bad e => ([], some (p + sk false l, e))
    | .ok t n => if t.kind = 4 then ([⟨t, p + sk false l⟩], none) else (scanL (l.drop (sk false l + n)) (p + (sk false l + n))).add ⟨t, p + sk false l⟩ := by
  unfold scanL
  rw [scanF]
  cases hw : wordW (l.drop (sk false l)) with
  | bad e => rfl
  | ok t n =>
    obtain ⟨h1, h2, h3, _⟩ := word_len hw
    simp only
    split
    · rfl
    · rename_i h4
      have := h3 h4
      rw [List.length_drop] at h1
      rw [scanF_enough l.length ((l.drop (sk false l + n)).length + 1) _ _ (by rw [List.length_drop]; omega) (by omega)]
/-! ### blanks and remarks, byte by byte -/
theorem scanL_blank {c : UInt8} (r : List UInt8) (p : Nat) (h : isBlank c = true) : scanL (c :: r) p = scanL r (p + 1) := by
  have e : sk false (c :: r) = 1 + sk false r := by simp only [sk]; rw [if_pos h]
  rw [scanL_eq, scanL_eq r, e]
  have e1 : ∀ n, (c :: r).drop (1 + n) = r.drop n := fun n => by rw [Nat.add_comm, List.drop_succ_cons]
  rw [e1]
  cases wordW (r.drop (sk false r)) with
  | bad e => simp only; rw [Nat.add_assoc]
  | ok t n => simp only; rw [Nat.add_assoc 1, e1, Nat.add_assoc p 1, Nat.add_assoc p 1]
/-- how far the line's end is -/
def rest : List UInt8 → Nat
  | [] => 0
  | c :: r => if c.toNat = 10 then 0 else rest r + 1
theorem rest_le (l : List UInt8) : rest l ≤ l.length := by
  induction l with
  | nil => simp [rest]
  | cons c r ih => simp only [rest, List.length_cons]; split <;> omega
theorem sk_true (l : List UInt8) : (rest l < l.length → sk true l = rest l + 1 + sk false (l.drop (rest l + 1))) ∧ (¬ rest l < l.length → sk true l = l.length) := by
  induction l with
  | nil => simp [sk, rest]
  | cons c r ih =>
    by_cases h : c.toNat = 10
    · simp [sk, rest, h]
    · simp only [sk, rest, h, if_false, List.length_cons, List.drop_succ_cons]
      refine ⟨fun h2 => ?_, fun h2 => ?_⟩
      · rw [ih.1 (by omega)]; omega
      · rw [ih.2 (by omega)]; omega
end Go.Tok
