/- Words written anew; words of a text that is cut off: plain law. -/
import Derived.Test.YtghofiehkdhbeaaDoorLex
namespace Go.Tok

/-- the decimal digits of a number -/
def dgt (d : Nat) : UInt8 := UInt8.ofNat (48 + d)
def dec (n : Nat) : List UInt8 := if h : n / 10 = 0 then [dgt (n % 10)] else dec (n / 10) ++ [dgt (n % 10)]
termination_by n
decreasing_by omega
theorem val_snoc (l : List UInt8) (c : UInt8) : val (l ++ [c]) = 10 * val l + digit c := by unfold val; rw [List.foldl_append]; rfl
theorem digit_ofNat {d : Nat} (h : d < 10) : digit (dgt d) = d := by
  unfold digit dgt
  rw [UInt8.toNat_ofNat']
  omega
theorem ofNat_digit {c : UInt8} (h : isDig c = true) : dgt (digit c) = c := by
  unfold isDig at h
  unfold dgt digit
  simp at h
  have : 48 + (c.toNat - 48) = c.toNat := by omega
  rw [this]
  exact UInt8.ofNat_toNat
theorem isDig_ofNat {d : Nat} (h : d < 10) : isDig (dgt d) = true := by
  unfold isDig dgt
  rw [UInt8.toNat_ofNat']
  simp
  omega
theorem digit_lt {c : UInt8} (h : isDig c = true) : digit c < 10 := by
  unfold isDig digit at *
  simp at h
  omega
theorem dec_dig (n : Nat) : ∀ c ∈ dec n, isDig c = true := by
  induction n using Nat.strongRecOn with
  | ind n ih =>
    intro c hc
    rw [dec] at hc
    split at hc
    · simp at hc; rw [hc]; exact isDig_ofNat (by omega)
    · rename_i h
      rcases List.mem_append.1 hc with hc | hc
      · exact ih (n / 10) (by omega) c hc
      · simp at hc; rw [hc]; exact isDig_ofNat (by omega)
theorem dec_val (n : Nat) : val (dec n) = n := by
  induction n using Nat.strongRecOn with
  | ind n ih =>
    rw [dec]
    split
    · rename_i h
      simp only [val, List.foldl_cons, List.foldl_nil]
      rw [digit_ofNat (by omega)]
      omega
    · rename_i h
      rw [val_snoc, ih (n / 10) (by omega), digit_ofNat (by omega)]
      omega
theorem dec_ne (n : Nat) : dec n ≠ [] := by
  rw [dec]; split <;> simp
theorem snoc_ind {p : List UInt8 → Prop} (h0 : p []) (h1 : ∀ l c, p l → p (l ++ [c])) : ∀ l, p l := by
  intro l
  rw [← List.reverse_reverse l]
  induction l.reverse with
  | nil => exact h0
  | cons c r ih => rw [List.reverse_cons]; exact h1 _ _ ih
/-- a numeral without a nought ahead is the digits of its value -/
theorem dec_of_val : ∀ (l : List UInt8), (∀ c ∈ l, isDig c = true) → l ≠ [] → ¬ (first isZero l = true ∧ 1 < l.length) → dec (val l) = l := by
  refine snoc_ind ?_ ?_
  · intro _ h; exact absurd rfl h
  · intro l c ih hd _ hz
    have hc : isDig c = true := hd c (by simp)
    have hcl := digit_lt hc
    rw [val_snoc]
    by_cases hl : l = []
    · subst hl
      have e : 10 * val [] + digit c = digit c := by simp [val]
      rw [e, dec, dif_pos (by omega), Nat.mod_eq_of_lt hcl, ofNat_digit hc]
      rfl
    · have h2 : dec (val l) = l := ih (fun x hx => hd x (by simp [hx])) hl (by
        rintro ⟨h1, h2⟩
        apply hz
        refine ⟨?_, by simp; omega⟩
        cases l with
        | nil => cases h1
        | cons a r => exact h1)
      have hpos : 0 < val l := by
        rcases Nat.eq_zero_or_pos (val l) with h0 | h0
        · exfalso
          rw [h0] at h2
          have e0 : dec 0 = [48] := by rw [dec]; rfl
          rw [e0] at h2
          apply hz
          rw [← h2]
          exact ⟨by rfl, by simp⟩
        · exact h0
      rw [dec, dif_neg (by omega)]
      have e1 : (10 * val l + digit c) / 10 = val l := by omega
      have e2 : (10 * val l + digit c) % 10 = digit c := by omega
      rw [e1, e2, h2, ofNat_digit hc]
theorem dec_zero {n : Nat} : ¬ (first isZero (dec n) = true ∧ 1 < (dec n).length) := by
  induction n using Nat.strongRecOn with
  | ind n ih =>
    rw [dec]
    split
    · rintro ⟨_, h⟩; simp at h
    · rename_i h
      rintro ⟨h1, h2⟩
      have hh := ih (n / 10) (by omega)
      have hne := dec_ne (n / 10)
      cases hd : dec (n / 10) with
      | nil => exact hne hd
      | cons a r =>
        rw [hd] at h1 hh
        have h3 : first isZero (a :: r) = true := h1
        cases r with
        | nil =>
          have hv := dec_val (n / 10)
          rw [hd] at hv
          have ha : a.toNat = 48 := by
            have : isZero a = true := h3
            unfold isZero at this
            simpa using this
          simp [val, digit, ha] at hv
          omega
        | cons b r => exact hh ⟨h3, by simp⟩
/-- a word's text -/
def text (t : Tok) : List UInt8 := if t.kind = 1 then dec t.n else if t.kind = 2 then 39 :: t.s else t.s

/-! ### a word that stands ahead of whatever ends it -/
/-- bytes that end every word -/
def Ends (l : List UInt8) : Prop := l = [] ∨ ∃ c r, l = c :: r ∧ (c.toNat = 32 ∨ c.toNat = 35)
theorem run_app {p : UInt8 → Bool} {a b : List UInt8} (ha : ∀ c ∈ a, p c = true) (hb : first p b = false) : run p (a ++ b) = a := by
  unfold run
  induction a with
  | nil =>
    cases b with
    | nil => rfl
    | cons c r =>
      have : p c = false := hb
      rw [List.nil_append, List.takeWhile_cons, if_neg (by simp [this])]
  | cons c a ih => rw [List.cons_append, List.takeWhile_cons, if_pos (ha c (by simp)), ih (fun x hx => ha x (by simp [hx]))]
theorem run_all (p : UInt8 → Bool) (l : List UInt8) : ∀ c ∈ run p l, p c = true := by
  intro c hc
  unfold run at hc
  induction l with
  | nil => cases hc
  | cons a r ih =>
    rw [List.takeWhile_cons] at hc
    split at hc
    · rename_i h
      rcases List.mem_cons.1 hc with rfl | hc
      · exact h
      · exact ih hc
    · cases hc
theorem Ends.first {l : List UInt8} (h : Ends l) : Tok.first isAl l = false ∧ Tok.first isDig l = false := by
  rcases h with rfl | ⟨c, r, rfl, hc⟩
  · exact ⟨rfl, rfl⟩
  · constructor <;> simp only [Tok.first, isAl, isLet, isDig] <;> rcases hc with hc | hc <;> rw [hc] <;> decide
/-- a word that a text may have -/
inductive Good : Tok → Prop
  | name {s : List UInt8} (h1 : Tok.first isLet s = true) (h2 : ∀ c ∈ s, isAl c = true) (h3 : s.length ≤ 16) : Good ⟨0, s, 0⟩
  | sym {s : List UInt8} (h1 : Tok.first isLet s = true) (h2 : ∀ c ∈ s, isAl c = true) (h3 : s.length ≤ 16) : Good ⟨2, s, 0⟩
  | num {n : Nat} (h : n ≤ big) : Good ⟨1, [], n⟩
  | two {a b : UInt8} (h : Tok.two a b = true) : Good ⟨3, [a, b], 0⟩
  | one {a : UInt8} (h : Tok.one a = true) : Good ⟨3, [a], 0⟩
theorem run_take_first {p q : UInt8 → Bool} {l : List UInt8} (hpq : ∀ c, p c = true → q c = true) (h : first p l = true) : first p (run q l) = true := by
  cases l with
  | nil => cases h
  | cons c r => unfold run; rw [List.takeWhile_cons, if_pos (hpq c h)]; exact h
theorem good_of_word {l : List UInt8} {t : Tok} {n : Nat} (h : wordW l = .ok t n) (h4 : t.kind ≠ 4) : Good t ∧ (text t).length = n ∧ l.take n = text t := by
  cases l with
  | nil => simp only [wordW] at h; injection h with h1 h2; subst h1; exact absurd rfl h4
  | cons c r =>
    simp only [wordW] at h
    split at h
    · rename_i hl
      unfold nameW at h
      split at h
      · split at h
        · cases h
        · rename_i hf hs
          injection h with h1 h2
          subst h1 h2
          refine ⟨.name (run_take_first (fun c => let_al) hf) (run_all _ _) (by omega), ?_, ?_⟩
          · simp [text]
          · simp only [text, Nat.zero_add]; exact run_pre _ _
      · cases h
    · split at h
      · rename_i h39
        unfold nameW at h
        split at h
        · split at h
          · cases h
          · rename_i hf hs
            injection h with h1 h2
            subst h1 h2
            have hc : c = 39 := UInt8.toNat_inj.1 h39
            refine ⟨.sym (run_take_first (fun c => let_al) hf) (run_all _ _) (by omega), ?_, ?_⟩
            · simp [text]; omega
            · simp only [text, hc]
              rw [Nat.add_comm, List.take_succ_cons, run_pre]
              rfl
        · cases h
      · split at h
        · rename_i hd
          unfold numW at h
          split at h
          · cases h
          · rename_i hz
            split at h
            · cases h
            · rename_i hb
              injection h with h1 h2
              subst h1 h2
              have hpos := run_first (p := isDig) (q := isDig) (fun c h => h) (l := c :: r) hd
              have hz2 : ¬ (first isZero (run isDig (c :: r)) = true ∧ 1 < (run isDig (c :: r)).length) := by
                rintro ⟨a, b⟩
                refine hz ⟨?_, b⟩
                unfold run at a
                rw [List.takeWhile_cons, if_pos hd] at a
                exact a
              have e := dec_of_val _ (run_all isDig (c :: r)) (by intro e; rw [e] at hpos; simp at hpos) hz2
              refine ⟨.num (by omega), ?_, ?_⟩
              · simp only [text, if_true, e]
              · simp only [text, if_true, e]; exact run_pre _ _
        · unfold markW at h
          split at h
          · cases h
          · rename_i hm
            injection h with h1 h2
            subst h1 h2
            have hlen := markLen_le (c :: r)
            refine ⟨?_, by simp [text]; simp at hlen; omega, by simp [text]⟩
            cases r with
            | nil =>
              simp only [markLen] at hm ⊢
              split
              · rename_i h1; exact .one h1
              · rename_i h1; rw [if_neg h1] at hm; exact absurd rfl hm
            | cons b r =>
              simp only [markLen] at hm ⊢
              split
              · rename_i h1; exact .two h1
              · rename_i h1
                split
                · rename_i h2; exact .one h2
                · rename_i h2; rw [if_neg h1, if_neg h2] at hm; exact absurd rfl hm
theorem let_range {c : UInt8} (h : isLet c = true) : 97 ≤ c.toNat ∧ c.toNat ≤ 122 := by unfold isLet at h; simpa using h
theorem dig_range {c : UInt8} (h : isDig c = true) : 48 ≤ c.toNat ∧ c.toNat ≤ 57 := by unfold isDig at h; simpa using h
theorem ones_mem {c : UInt8} (h : one c = true) : c.toNat ∈ ones := by unfold one at h; exact List.contains_iff_mem.1 h
theorem not_let {c : UInt8} (h : c.toNat < 97 ∨ 122 < c.toNat) : isLet c = false := by unfold isLet; simp; omega
theorem not_dig {c : UInt8} (h : c.toNat < 48 ∨ 57 < c.toNat) : isDig c = false := by unfold isDig; simp; omega
theorem not_blank {c : UInt8} (h : 32 < c.toNat) : isBlank c = false := by unfold isBlank; simp; omega
theorem wordW_mark {c : UInt8} {r : List UInt8} (h1 : isLet c = false) (h2 : c.toNat ≠ 39) (h3 : isDig c = false) : wordW (c :: r) = markW (c :: r) := by simp [wordW, h1, h2, h3]
theorem markW_of {l : List UInt8} {m : Nat} (h : markLen l = m) (hm : m ≠ 0) : markW l = .ok ⟨3, l.take m, 0⟩ m := by
  unfold markW
  rw [h, if_neg hm]
/-- where a good word stands ahead of what ends it, it is the word, and nothing stands ahead of it -/
theorem word_good {t : Tok} (h : Good t) {x : List UInt8} (hx : Ends x) : wordW (text t ++ x) = .ok t (text t).length ∧ sk false (text t ++ x) = 0 ∧ 0 < (text t).length := by
  obtain ⟨x1, x2⟩ := hx.first
  cases h with
  | @name s h1 h2 h3 =>
    cases s with
    | nil => cases h1
    | cons c r =>
      have hc : isLet c = true := h1
      have e : run isAl (c :: r ++ x) = c :: r := run_app h2 x1
      have hr := let_range hc
      refine ⟨?_, ?_, by simp [text]⟩
      · simp only [text, wordW, List.cons_append] at e ⊢
        simp only [nameW]
        simp [hc, first, e]
        simp at h3
        omega
      · simp only [text]
        simp [sk, not_blank (c := c) (by omega), show c.toNat ≠ 35 by omega]
  | @sym s h1 h2 h3 =>
    cases s with
    | nil => cases h1
    | cons c r =>
      have hc : isLet c = true := h1
      have e : run isAl (c :: r ++ x) = c :: r := run_app h2 x1
      refine ⟨?_, ?_, by simp [text]⟩
      · have e2 : isLet 39 = false := by decide
        simp only [List.cons_append] at e
        simp [text, wordW, nameW, first, hc, e, e2]
        simp at h3
        rw [if_neg (by omega), Nat.add_comm 1]
      · have e3 : isBlank 39 = false := by decide
        simp [text, sk, e3]
  | @num n h =>
    have hd := dec_dig n
    have hne := dec_ne n
    have hz := dec_zero (n := n)
    have e : run isDig (dec n ++ x) = dec n := run_app hd x2
    have ht : text ⟨1, [], n⟩ = dec n := by simp [text]
    have hv := dec_val n
    rw [ht]
    cases hl : dec n with
    | nil => exact absurd hl hne
    | cons c r =>
      rw [hl] at e hz hd hv
      have hc : isDig c = true := hd c (by simp)
      have hr := dig_range hc
      refine ⟨?_, ?_, by simp⟩
      · have e2 : isLet c = false := not_let (by omega)
        have hz' : ¬ (first isZero (c :: r ++ x) = true ∧ 1 < (c :: r).length) := hz
        simp only [List.cons_append] at e hz'
        simp only [List.cons_append, wordW, e2, hc, numW, e]
        rw [if_neg (by simp), if_neg (by omega), if_pos (by simp), if_neg hz', if_neg (by rw [hv]; omega), hv]
      · simp [sk, not_blank (c := c) (by omega), show c.toNat ≠ 35 by omega]
  | @two a b h =>
    have hab : (a.toNat = 45 ∧ b.toNat = 62) ∨ (a.toNat = 60 ∧ b.toNat = 61) := by unfold Tok.two at h; simpa using h
    refine ⟨?_, ?_, by simp [text]⟩
    · show wordW (a :: b :: x) = .ok ⟨3, [a, b], 0⟩ 2
      rw [wordW_mark (not_let (by omega)) (by omega) (not_dig (by omega)), markW_of (m := 2) (by simp [markLen, h]) (by omega)]
      rfl
    · simp [text, sk, not_blank (c := a) (by omega), show a.toNat ≠ 35 by omega]
  | @one a h =>
    have hm := ones_mem h
    simp only [ones, List.mem_cons, List.not_mem_nil, or_false] at hm
    refine ⟨?_, ?_, by simp [text]⟩
    · have e : markLen (a :: x) = 1 := by
        rcases hx with rfl | ⟨c, r, rfl, hc⟩
        · simp [markLen, h]
        · have h2 : Tok.two a c = false := by unfold Tok.two; simp; omega
          simp [markLen, h, h2]
      show wordW (a :: x) = .ok ⟨3, [a], 0⟩ 1
      rw [wordW_mark (not_let (by omega)) (by omega) (not_dig (by omega)), markW_of e (by omega)]
      rfl
    · have : 32 < a.toNat ∧ a.toNat ≠ 35 := by omega
      simp [text, sk, not_blank this.1, this.2]

/-! ### written anew -/
/-- what stands between two words -/
structure Gap (g : List UInt8) : Prop where
  skip : ∀ x, sk false (g ++ x) = g.length + sk false x
  ends : ∀ x, Ends (g ++ x)
theorem gap_blank : Gap [32] := ⟨fun x => by simp [sk, show isBlank 32 = true by decide], fun x => .inr ⟨32, x, rfl, .inl rfl⟩⟩
theorem gap_remark : Gap [35, 120, 10] := ⟨fun x => by simp [sk, show isBlank 35 = false by decide]; omega, fun x => .inr ⟨35, 120 :: 10 :: x, rfl, .inr rfl⟩⟩
def flat (g : List UInt8) : List Tok → List UInt8
  | [] => []
  | t :: r => text t ++ (g ++ flat g r)
def eof : Tok := ⟨4, [], 0⟩
theorem good_kind {t : Tok} (h : Good t) : t.kind ≠ 4 := by cases h <;> simp
theorem scan_flat {g : List UInt8} (hg : Gap g) : ∀ (ts : List Tok), (∀ t ∈ ts, Good t) → ∀ (pre : List UInt8), (∀ x, sk false (pre ++ x) = pre.length + sk false x) → ∀ p : Nat, ∃ ws : List Word, scanL (pre ++ (flat g ts ++ g)) p = (ws, none) ∧ ws.map (·.t) = ts ++ [eof] := by
  intro ts
  induction ts with
  | nil =>
    intro _ pre hp p
    have e : sk false (pre ++ g) = pre.length + g.length := by
      have h1 := hg.skip []
      rw [List.append_nil] at h1
      rw [hp, h1]
      simp [sk]
    refine ⟨[⟨eof, p + (pre.length + g.length)⟩], ?_, rfl⟩
    rw [scanL_eq, flat, List.nil_append, e, List.drop_of_length_le (by simp)]
    rfl
  | cons t ts ih =>
    intro hts pre hp p
    have ht : Good t := hts t (by simp)
    have hx : Ends ((g ++ flat g ts) ++ g) := by rw [List.append_assoc]; exact hg.ends _
    obtain ⟨h1, h2, h3⟩ := word_good ht hx
    have ea : pre ++ (flat g (t :: ts) ++ g) = pre ++ (text t ++ ((g ++ flat g ts) ++ g)) := by simp [flat]
    obtain ⟨ws, hs, hm⟩ := ih (fun t ht => hts t (by simp [ht])) g (fun x => hg.skip x) (p + (pre.length + (text t).length))
    refine ⟨⟨t, p + pre.length⟩ :: ws, ?_, by simp [hm]⟩
    rw [ea, scanL_eq, hp, h2, Nat.add_zero, List.drop_left, h1]
    simp only
    rw [if_neg (good_kind ht)]
    have ed : (pre ++ (text t ++ ((g ++ flat g ts) ++ g))).drop (pre.length + (text t).length) = g ++ (flat g ts ++ g) := by
      rw [← List.append_assoc, ← List.length_append, List.drop_left, List.append_assoc]
    rw [ed, hs]
    rfl
/-! ### what a scan without an error is made of -/
/-- words from a place on, the last one the end -/
inductive Chain : Nat → Nat → List Word → Prop
  | eof (p e : Nat) (h : p ≤ e) : Chain p e [⟨Go.Tok.eof, e⟩]
  | more {p e q : Nat} {t : Tok} {ws : List Word} (h1 : Good t) (h2 : p ≤ q) (h3 : Chain (q + (text t).length) e ws) : Chain p e (⟨t, q⟩ :: ws)
theorem word_eof {t : Tok} {n : Nat} {l : List UInt8} (h : wordW l = .ok t n) (h4 : t.kind = 4) : l = [] ∧ t = eof ∧ n = 0 := by
  have h1 := (word_len h).2.1.1 h4
  subst h1
  simp only [wordW] at h
  injection h with h2 h3
  exact ⟨rfl, h2.symm, h3.symm⟩
theorem scan_chain : ∀ (n : Nat) (l : List UInt8) (p : Nat) (ws : List Word), l.length ≤ n → scanL l p = (ws, none) → Chain p (p + l.length) ws := by
  intro n
  induction n with
  | zero =>
    intro l p ws hn h
    have hl : l = [] := List.length_eq_zero_iff.1 (by omega)
    subst hl
    have e : scanL [] p = ([⟨eof, p⟩], none) := by rw [scanL_eq]; rfl
    rw [e] at h
    injection h with h
    subst h
    exact .eof _ _ (by simp)
  | succ n ih =>
    intro l p ws hn h
    have hsk := sk_le false l
    rw [scanL_eq] at h
    cases hw : wordW (l.drop (sk false l)) with
    | bad e => rw [hw] at h; injection h with _ h; cases h
    | ok t m =>
      rw [hw] at h
      simp only at h
      split at h
      · rename_i h4
        obtain ⟨h1, rfl, h3⟩ := word_eof hw h4
        injection h with h
        subst h
        have : l.length ≤ sk false l := by
          have := congrArg List.length h1
          simp at this; omega
        have e : p + sk false l = p + l.length := by omega
        rw [e]
        exact .eof _ _ (by omega)
      · rename_i h4
        obtain ⟨h1, h2, h3, _⟩ := word_len hw
        have hpos := h3 h4
        obtain ⟨g1, g2, _⟩ := good_of_word hw h4
        rw [List.length_drop] at h1
        unfold Out.add at h
        injection h with ha hb
        subst ha
        have hr : scanL (l.drop (sk false l + m)) (p + (sk false l + m)) = ((scanL (l.drop (sk false l + m)) (p + (sk false l + m))).1, none) := Prod.ext rfl hb
        have := ih _ _ _ (by rw [List.length_drop]; omega) hr
        rw [List.length_drop] at this
        have e : p + (sk false l + m) + (l.length - (sk false l + m)) = p + l.length := by omega
        rw [e] at this
        refine .more g1 (by omega) ?_
        rw [g2]
        have e2 : p + sk false l + m = p + (sk false l + m) := by omega
        rw [e2]
        exact this
theorem Chain.split {p e : Nat} {ws : List Word} (h : Chain p e ws) : ∃ gs : List Word, ws = gs ++ [⟨Go.Tok.eof, e⟩] ∧ (∀ g ∈ gs, Good g.t) := by
  induction h with
  | eof p e h => exact ⟨[], rfl, by simp⟩
  | @more p e q t ws h1 h2 h3 ih =>
    obtain ⟨gs, rfl, hg⟩ := ih
    exact ⟨⟨t, q⟩ :: gs, rfl, by
      intro g hm
      rcases List.mem_cons.1 hm with rfl | hm
      · exact h1
      · exact hg g hm⟩
/-- the places rise, and none is behind the end -/
theorem good_pos {t : Tok} (h : Good t) : 0 < (text t).length := (word_good h (x := []) (.inl rfl)).2.2
theorem Chain.at_ge {p e : Nat} {ws : List Word} (h : Chain p e ws) : ∀ w ∈ ws, p ≤ w.at_ ∧ w.at_ ≤ e := by
  induction h with
  | eof p e h => intro w hw; simp at hw; subst hw; exact ⟨h, Nat.le_refl _⟩
  | @more p e q t ws h1 h2 h3 ih =>
    have hend : q ≤ e := by
      cases h3 with
      | eof _ _ h => omega
      | @more _ _ q2 t2 ws2 a b c => have h5 := ih ⟨t2, q2⟩ (by simp); simp at h5; omega
    intro w hw
    rcases List.mem_cons.1 hw with rfl | hw
    · exact ⟨h2, hend⟩
    · have := ih w hw; omega
theorem Chain.rises {p e : Nat} {ws : List Word} (h : Chain p e ws) : ∀ (i : Nat) (a b : Word), ws[i]? = some a → ws[i + 1]? = some b → a.at_ + (text a.t).length ≤ b.at_ ∧ Good a.t := by
  induction h with
  | eof p e h => intro i a b _ h2; simp at h2
  | @more p e q t ws h1 h2 h3 ih =>
    intro i a b ha hb
    cases i with
    | zero =>
      simp at ha hb
      subst ha
      have := (h3.at_ge b (List.mem_of_getElem? hb)).1
      exact ⟨this, h1⟩
    | succ i => exact ih i a b (by simpa using ha) (by simpa using hb)
theorem Chain.pos {p e : Nat} {ws : List Word} (h : Chain p e ws) : 0 < ws.length := by cases h <;> simp
theorem Chain.count {p e : Nat} {ws : List Word} (h : Chain p e ws) : ws.length + p ≤ e + 1 := by
  induction h with
  | eof p e h => simp; omega
  | @more p e q t ws h1 h2 h3 ih => have := good_pos h1; simp; omega

/-! ### cut off -/
theorem sk_take (b : Bool) (l : List UInt8) (c : Nat) : sk b (l.take c) = min (sk b l) c := by
  induction l generalizing b c with
  | nil => simp [sk]
  | cons a r ih =>
    cases c with
    | zero => simp [sk]
    | succ c =>
      rw [List.take_succ_cons]
      cases b
      · simp only [sk]
        split
        · rw [ih]; omega
        · split
          · rw [ih]; omega
          · omega
      · simp only [sk]
        split <;> rw [ih] <;> omega
theorem run_take (p : UInt8 → Bool) : ∀ (l : List UInt8) (c : Nat), (run p l).length ≤ c → run p (l.take c) = run p l := by
  intro l
  induction l with
  | nil => intro c _; rw [List.take_nil]
  | cons a r ih =>
    intro c h
    unfold run at h ih ⊢
    cases c with
    | zero =>
      rw [List.takeWhile_cons] at h ⊢
      split at h
      · simp at h
      · rename_i hp; rw [if_neg hp]; rfl
    | succ c =>
      rw [List.take_succ_cons, List.takeWhile_cons, List.takeWhile_cons]
      rw [List.takeWhile_cons] at h
      split at h
      · rename_i hp
        rw [if_pos hp, if_pos hp, ih c (by simpa using h)]
      · rename_i hp
        rw [if_neg hp, if_neg hp]
theorem first_take {p : UInt8 → Bool} {l : List UInt8} {c : Nat} (h : 0 < c) : first p (l.take c) = first p l := by
  cases c with
  | zero => omega
  | succ c => cases l <;> rfl
theorem name_take {kind k : Nat} {l : List UInt8} {t : Tok} {n c : Nat} (h : nameW kind k l = .ok t n) (hc : n ≤ c + k) : nameW kind k (l.take c) = .ok t n := by
  unfold nameW at h ⊢
  split at h
  · rename_i hf
    split at h
    · cases h
    · rename_i hs
      injection h with h1 h2
      subst h1 h2
      have hpos := run_first (p := isLet) (q := isAl) (fun c => let_al) hf
      rw [first_take (by omega), if_pos hf, run_take isAl l c (by omega), if_neg hs]
  · cases h
theorem word_take {l : List UInt8} {t : Tok} {n c : Nat} (h : wordW l = .ok t n) (h4 : t.kind ≠ 4) (hc : n ≤ c) : wordW (l.take c) = .ok t n := by
  have hpos := (word_len h).2.2.1 h4
  cases l with
  | nil => exact absurd ((word_len h).2.1.2 rfl) h4
  | cons a r =>
    cases c with
    | zero => omega
    | succ c =>
      rw [List.take_succ_cons]
      simp only [wordW] at h ⊢
      split at h
      · rename_i hl
        rw [if_pos hl]
        have := name_take (c := c + 1) h (by omega)
        rwa [List.take_succ_cons] at this
      · rename_i hl
        rw [if_neg hl]
        split at h
        · rename_i h39
          rw [if_pos h39]
          exact name_take h (by omega)
        · rename_i h39
          rw [if_neg h39]
          split at h
          · rename_i hd
            rw [if_pos hd]
            unfold numW at h ⊢
            have e : ∀ (hn : (run isDig (a :: r)).length ≤ c + 1), run isDig (a :: r.take c) = run isDig (a :: r) := fun hn => by
              have := run_take isDig (a :: r) (c + 1) hn
              rwa [List.take_succ_cons] at this
            have ef : first isZero (a :: r.take c) = first isZero (a :: r) := rfl
            split at h
            · cases h
            · rename_i h1
              split at h
              · cases h
              · rename_i h2
                injection h with h5 h6
                subst h5 h6
                rw [e hc, ef, if_neg h1, if_neg h2]
          · rename_i hd
            rw [if_neg hd]
            unfold markW at h ⊢
            split at h
            · cases h
            · rename_i hm
              injection h with h5 h6
              subst h5 h6
              have e : markLen (a :: r.take c) = markLen (a :: r) := by
                cases r with
                | nil => rw [List.take_nil]
                | cons b r =>
                  cases c with
                  | zero =>
                    simp only [markLen, List.take_zero] at hc hm ⊢
                    split at hc
                    · omega
                    · rename_i h2; rw [if_neg h2] at hm ⊢
                  | succ c => rfl
              rw [e, if_neg hm]
              congr 1
              congr 1
              rw [← List.take_succ_cons, List.take_take, Nat.min_eq_left (by omega)]
theorem scan_cut : ∀ (n : Nat) (l : List UInt8) (p : Nat) (ws : List Word) (w : Word), scanL l p = (ws, none) → ws[n]? = some w → n + 1 < ws.length →
    p ≤ w.at_ ∧ scanL (l.take (w.at_ - p + (text w.t).length)) p = (ws.take (n + 1) ++ [⟨eof, w.at_ + (text w.t).length⟩], none) := by
  intro n
  induction n with
  | zero =>
    intro l p ws w h hw hn
    rw [scanL_eq] at h
    cases hq : wordW (l.drop (sk false l)) with
    | bad e => rw [hq] at h; injection h with _ h; cases h
    | ok t m =>
      rw [hq] at h
      simp only at h
      split at h
      · injection h with h; subst h; simp at hn
      · rename_i h4
        obtain ⟨g1, g2, _⟩ := good_of_word hq h4
        unfold Out.add at h
        injection h with ha hb
        subst ha
        simp at hw
        subst hw
        simp only [g2]
        refine ⟨by omega, ?_⟩
        have e : p + sk false l - p + m = sk false l + m := by omega
        rw [e, scanL_eq, sk_take, Nat.min_eq_left (by omega)]
        have e2 : (l.take (sk false l + m)).drop (sk false l) = (l.drop (sk false l)).take m := by rw [List.drop_take]; congr 1; omega
        rw [e2, word_take hq h4 (Nat.le_refl _)]
        simp only
        rw [if_neg h4, List.drop_of_length_le (by simp; omega)]
        have e3 : ∀ q, scanL [] q = ([⟨eof, q⟩], none) := fun q => by rw [scanL_eq]; rfl
        rw [e3]
        simp [Out.add]
        omega
  | succ n ih =>
    intro l p ws w h hw hn
    rw [scanL_eq] at h
    cases hq : wordW (l.drop (sk false l)) with
    | bad e => rw [hq] at h; injection h with _ h; cases h
    | ok t m =>
      rw [hq] at h
      simp only at h
      split at h
      · injection h with h; subst h; simp at hn
      · rename_i h4
        unfold Out.add at h
        injection h with ha hb
        subst ha
        have hr : scanL (l.drop (sk false l + m)) (p + (sk false l + m)) = ((scanL (l.drop (sk false l + m)) (p + (sk false l + m))).1, none) := Prod.ext rfl hb
        obtain ⟨i1, i2⟩ := ih _ _ _ w hr (by simpa using hw) (by simpa using hn)
        refine ⟨by omega, ?_⟩
        rw [scanL_eq, sk_take, Nat.min_eq_left (by omega)]
        have e2 : (l.take (w.at_ - p + (text w.t).length)).drop (sk false l) = (l.drop (sk false l)).take (w.at_ - p + (text w.t).length - sk false l) := by rw [List.drop_take]
        rw [e2, word_take hq h4 (by omega)]
        simp only
        rw [if_neg h4]
        have e3 : (l.take (w.at_ - p + (text w.t).length)).drop (sk false l + m) = (l.drop (sk false l + m)).take (w.at_ - (p + (sk false l + m)) + (text w.t).length) := by rw [List.drop_take]; congr 1; omega
        rw [e3, i2]
        rfl
end Go.Tok
