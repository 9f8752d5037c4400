/- Times read from their texts: plain. -/
import Derived.Test.YtoefekgfklillaaDoorText
import Derived.Lib.AtoiAllCases
import Derived.Lib.IndexMore
namespace Go.Proofs.YtoefekgfklillaaDoor
open Go.RowKit Go.Kx

def isDig (c : UInt8) : Bool := decide (48 ≤ c.toNat) && decide (c.toNat ≤ 57)
theorem isDig_iff {c : UInt8} : isDig c = true ↔ 48 ≤ c.toNat ∧ c.toNat ≤ 57 := by unfold isDig; simp
def valF (n : Nat) (l : List UInt8) : Nat := l.foldl (fun n c => n * 10 + (c.toNat - 48)) n
def valD (l : List UInt8) : Nat := valF 0 l
theorem valD_snoc (l : List UInt8) (c : UInt8) : valD (l ++ [c]) = valD l * 10 + (c.toNat - 48) := by unfold valD valF; rw [List.foldl_append]; rfl
def canonB (l : List UInt8) : Bool := !l.isEmpty && l.all isDig && (decide (l.length ≤ 1) || l.head? != some 48)

theorem dig_of {k : Nat} (h : k < 10) : isDig (UInt8.ofNat (48 + k)) = true ∧ (UInt8.ofNat (48 + k)).toNat = 48 + k := by
  have e : (UInt8.ofNat (48 + k)).toNat = 48 + k := by rw [UInt8.toNat_ofNat']; omega
  exact ⟨isDig_iff.2 (by omega), e⟩
theorem of_dig {c : UInt8} (h : isDig c = true) : UInt8.ofNat (48 + (c.toNat - 48)) = c := by
  have := isDig_iff.1 h
  rw [show 48 + (c.toNat - 48) = c.toNat by omega, UInt8.ofNat_toNat]

theorem dec_small {n : Nat} (h : n < 10) : Lib.decDigits n = [UInt8.ofNat (48 + n)] := by rw [Lib.decDigits, dif_pos h]
theorem dec_big {n : Nat} (h : ¬ n < 10) : Lib.decDigits n = Lib.decDigits (n / 10) ++ [UInt8.ofNat (48 + n % 10)] := by rw [Lib.decDigits, dif_neg h]

theorem dec_props (n : Nat) : Lib.decDigits n ≠ [] ∧ (∀ c ∈ Lib.decDigits n, isDig c = true) ∧ valD (Lib.decDigits n) = n ∧ (0 < n → (Lib.decDigits n).head? ≠ some 48) ∧ (n < 10 → (Lib.decDigits n).length = 1) := by
  induction n using Nat.strongRecOn with
  | ind n ih =>
    by_cases h : n < 10
    · rw [dec_small h]
      have d := dig_of h
      refine ⟨by simp, fun c hc => by rw [List.mem_singleton.1 hc]; exact d.1, ?_, fun h0 he => ?_, fun _ => rfl⟩
      · show 0 * 10 + ((UInt8.ofNat (48 + n)).toNat - 48) = n
        rw [d.2]; omega
      · have he' : UInt8.ofNat (48 + n) = 48 := Option.some.inj he
        have := congrArg UInt8.toNat he'
        rw [d.2] at this
        have e48 : (48 : UInt8).toNat = 48 := rfl
        omega
    · rw [dec_big h]
      obtain ⟨a1, a2, a3, a4, _⟩ := ih (n / 10) (by omega)
      have d := dig_of (k := n % 10) (by omega)
      refine ⟨by simp, fun c hc => ?_, ?_, fun _ => ?_, fun h2 => absurd h2 h⟩
      · rcases List.mem_append.1 hc with h1 | h1
        · exact a2 c h1
        · rw [List.mem_singleton.1 h1]; exact d.1
      · rw [valD_snoc, a3, d.2]; omega
      · obtain ⟨x, xs, hx⟩ := List.exists_cons_of_ne_nil a1
        have := a4 (by omega)
        rw [hx] at this ⊢
        exact this

theorem snoc_cases {α : Type} (l : List α) : l = [] ∨ ∃ a c, l = a ++ [c] := by
  rcases List.eq_nil_or_concat l with h | ⟨a, c, h⟩
  · exact .inl h
  · exact .inr ⟨a, c, by rw [h, List.concat_eq_append]⟩
theorem valD_low : ∀ (n : Nat) (l : List UInt8), l.length = n → l ≠ [] → (∀ c ∈ l, isDig c = true) → l.head? ≠ some 48 → 10 ^ (l.length - 1) ≤ valD l
  | 0, l, hn, h, _, _ => absurd (List.length_eq_zero_iff.1 hn) h
  | n + 1, l, hn, h, hd, h0 => by
    rcases snoc_cases l with rfl | ⟨a, c, rfl⟩
    · exact absurd rfl h
    · have hc := isDig_iff.1 (hd c (by simp))
      rw [valD_snoc]
      simp at hn
      by_cases ha : a = []
      · subst ha
        simp at h0
        have : c.toNat ≠ 48 := fun e => h0 (UInt8.toNat_inj.1 e)
        simp [valD, valF]; omega
      · obtain ⟨x, xs, hx⟩ := List.exists_cons_of_ne_nil ha
        have h0' : a.head? ≠ some 48 := by rw [hx] at h0 ⊢; exact h0
        have ih := valD_low n a hn ha (fun c hc => hd c (by simp [hc])) h0'
        simp only [List.length_append, List.length_singleton, Nat.add_sub_cancel]
        have e : 10 ^ a.length = 10 * 10 ^ (a.length - 1) := by
          have : 0 < a.length := List.length_pos_iff.2 ha
          rw [← Nat.pow_succ']; congr 1; omega
        omega
theorem canon_iff {l : List UInt8} : canonB l = true ↔ l ≠ [] ∧ (∀ c ∈ l, isDig c = true) ∧ (1 < l.length → l.head? ≠ some 48) := by
  unfold canonB
  rw [Bool.and_eq_true, Bool.and_eq_true, Bool.or_eq_true, List.all_eq_true]
  constructor
  · rintro ⟨⟨h1, h2⟩, h3⟩
    refine ⟨by simpa using h1, h2, fun h => ?_⟩
    rcases h3 with h3 | h3
    · simp at h3; omega
    · simpa using h3
  · rintro ⟨h1, h2, h3⟩
    refine ⟨⟨by simpa using h1, h2⟩, ?_⟩
    by_cases h : 1 < l.length
    · exact .inr (by simpa using h3 h)
    · exact .inl (by simp; omega)
theorem dec_of_canon : ∀ (n : Nat) (l : List UInt8), l.length = n → canonB l = true → l = Lib.decDigits (valD l)
  | 0, l, hn, h => absurd (List.length_eq_zero_iff.1 hn) (canon_iff.1 h).1
  | n + 1, l, hn, h => by
    obtain ⟨h1, hd, h0⟩ := canon_iff.1 h
    rcases snoc_cases l with rfl | ⟨a, c, rfl⟩
    · exact absurd rfl h1
    · have hdc := hd c (by simp)
      have hc := isDig_iff.1 hdc
      rw [valD_snoc]
      simp at hn
      by_cases ha : a = []
      · subst ha
        have e : valD [] * 10 + (c.toNat - 48) = c.toNat - 48 := by simp [valD, valF]
        rw [e, dec_small (by omega), of_dig hdc]; rfl
      · obtain ⟨x, xs, hx⟩ := List.exists_cons_of_ne_nil ha
        have hlen : 0 < a.length := List.length_pos_iff.2 ha
        have h0' : a.head? ≠ some 48 := by
          have := h0 (by simp; omega)
          rw [hx] at this ⊢; exact this
        have hda : ∀ c ∈ a, isDig c = true := fun c hc => hd c (by simp [hc])
        have ih := dec_of_canon n a hn (canon_iff.2 ⟨ha, hda, fun _ => h0'⟩)
        have hp := valD_low _ a rfl ha hda h0'
        have hp1 : 0 < 10 ^ (a.length - 1) := Nat.pow_pos (by omega)
        rw [dec_big (by omega), show (valD a * 10 + (c.toNat - 48)) / 10 = valD a by omega, show (valD a * 10 + (c.toNat - 48)) % 10 = c.toNat - 48 by omega, of_dig hdc, ← ih]

def maxI : Nat := 9223372036854775807
/-- the reference's Digits -/
def digs (l : List UInt8) : Option Nat := if canonB l = true ∧ l.length ≤ 19 ∧ valD l ≤ maxI then some (valD l) else none
theorem canon_dec (n : Nat) : canonB (Lib.decDigits n) = true := by
  obtain ⟨h1, h2, _, h4, h5⟩ := dec_props n
  refine canon_iff.2 ⟨h1, h2, fun h => h4 ?_⟩
  rcases Nat.eq_zero_or_pos n with h0 | h0
  · have := h5 (by omega); omega
  · exact h0
theorem dec_len19 {n : Nat} (h : n ≤ maxI) : (Lib.decDigits n).length ≤ 19 := by
  obtain ⟨h1, h2, h3, h4, h5⟩ := dec_props n
  rcases Nat.eq_zero_or_pos n with h0 | h0
  · have := h5 (by omega); omega
  · have hp := valD_low _ _ rfl h1 h2 (h4 h0)
    rw [h3] at hp
    unfold maxI at h
    rcases Nat.lt_or_ge (Lib.decDigits n).length 20 with hl | hl
    · omega
    · have := Nat.pow_le_pow_right (n := 10) (by omega) (show 19 ≤ (Lib.decDigits n).length - 1 by omega)
      have e : (10 : Nat) ^ 19 = 10000000000000000000 := by decide
      omega
theorem digs_dec {n : Nat} (h : n ≤ maxI) : digs (Lib.decDigits n) = some n := by
  unfold digs
  have := (dec_props n).2.2.1
  rw [if_pos ⟨canon_dec n, dec_len19 h, by rw [this]; exact h⟩, this]
theorem digs_some {l : List UInt8} {n : Nat} (h : digs l = some n) : l = Lib.decDigits n ∧ n ≤ maxI := by
  unfold digs at h
  split at h
  · rename_i hh
    injection h with h
    subst h
    exact ⟨dec_of_canon _ l rfl hh.1, hh.2.2⟩
  · cases h

theorem valF_mono : ∀ (l : List UInt8) (n : Nat), n ≤ valF n l
  | [], _ => Nat.le_refl _
  | c :: l, n => Nat.le_trans (by omega) (valF_mono l (n * 10 + (c.toNat - 48)))
theorem parse_dig : ∀ (l : List UInt8) (n : Nat), (∀ c ∈ l, isDig c = true) → valF n l < 18446744073709551616 → Lib.parseUint10 n l = .ok (valF n l)
  | [], n, _, _ => rfl
  | c :: l, n, hd, hv => by
    have hc := isDig_iff.1 (hd c (by simp))
    have hm := valF_mono l (n * 10 + (c.toNat - 48))
    have hv' : valF (n * 10 + (c.toNat - 48)) l < 18446744073709551616 := hv
    unfold Lib.parseUint10
    rw [if_pos hc, if_neg (by omega), if_neg (by omega)]
    exact parse_dig l _ (fun c hc => hd c (by simp [hc])) hv'
theorem atoi_dec {n : Nat} (h : n ≤ maxI) : Lib.atoiAll (Lib.decDigits n) = .ok (n : Int) := by
  unfold maxI at h
  obtain ⟨h1, h2, h3, _, _⟩ := dec_props n
  have hp := parse_dig (Lib.decDigits n) 0 h2 (by have : valF 0 (Lib.decDigits n) = n := h3; omega)
  obtain ⟨x, xs, hx⟩ := List.exists_cons_of_ne_nil h1
  have hd := isDig_iff.1 (h2 x (by rw [hx]; simp))
  have hm : Lib.parseMag (Lib.decDigits n) = .ok n := by
    unfold Lib.parseMag
    rw [if_neg h1, hp]
    exact congrArg _ h3
  rw [hx] at hm ⊢
  rw [Lib.atoiAll_plain x xs (by omega) (by omega), hm]
  unfold Lib.signless
  simp only
  rw [if_neg (by omega)]

/-- span.number -/
def numb (l : List UInt8) : Int := match Lib.atoiAll l with | .ok v => v | _ => -1
theorem numb_ok (l : List UInt8) : I64 (numb l) := by
  unfold numb I64
  split
  · rename_i v h
    exact Lib.atoiAll_bounds h
  · omega
theorem numb_dec {n : Nat} (h : n ≤ maxI) : numb (Lib.decDigits n) = n := by unfold numb; rw [atoi_dec h]

/-- where the first stroke stands -/
def slash (l : List UInt8) : Nat := l.findIdx (· == 47)
theorem slash_none {l : List UInt8} (h : ∀ c ∈ l, isDig c = true) : slash l = l.length := by
  unfold slash
  rw [List.findIdx_eq_length]
  intro c hc
  have := isDig_iff.1 (h c hc)
  have h47 : c ≠ 47 := fun e => by
    have : c.toNat = 47 := by rw [e]; rfl
    omega
  simpa using h47
theorem slash_mid {a : List UInt8} (h : ∀ c ∈ a, isDig c = true) (b : List UInt8) : slash (a ++ [47] ++ b) = a.length := by
  have h0 := slash_none h
  unfold slash at *
  rw [List.append_assoc, List.findIdx_append, h0]
  simp [List.findIdx_cons]
theorem index_slash : ∀ l : List UInt8, Lib.index l [47] = if slash l < l.length then (slash l : Int) else -1
  | [] => rfl
  | b :: l => by
    have ih := index_slash l
    unfold Lib.index
    have e : ([47] : List UInt8).isPrefixOf (b :: l) = (47 == b) := by simp [List.isPrefixOf]
    rw [e]
    unfold slash at *
    have hle : l.findIdx (· == 47) ≤ l.length := List.findIdx_le_length
    rw [List.findIdx_cons]
    by_cases hb : b = 47
    · subst hb; simp
    · have h1 : (47 == b) = false := by simpa using Ne.symm hb
      have h2 : (b == 47) = false := by simpa using hb
      rw [h1, h2, ih]
      generalize l.findIdx (· == 47) = k at hle
      simp only [Bool.false_eq_true, if_false, cond_false, List.length_cons]
      by_cases hl : k < l.length
      · have h3 : ((k : Int) == -1) = false := by simp
        rw [if_pos hl, h3, if_pos (show k + 1 < l.length + 1 by omega)]
        simp
      · rw [if_neg hl, if_neg (show ¬ k + 1 < l.length + 1 by omega)]
        rfl
theorem cut_slash (l : List UInt8) : Lib.cut l [47] = if slash l < l.length then (l.take (slash l), l.drop (slash l + 1), true) else (l, [], false) := by
  unfold Lib.cut
  rw [index_slash]
  by_cases h : slash l < l.length
  · rw [if_pos h, if_pos h, if_pos (by omega)]; simp
  · rw [if_neg h, if_neg h, if_neg (by omega)]

/-- span.Read -/
def readT (l : List UInt8) : Te :=
  if l = neverS then ((1, 0), 0)
  else if Tm.right (numb (l.take (slash l)), if slash l < l.length then numb (l.drop (slash l + 1)) else 1) = true ∧ textT (numb (l.take (slash l)), if slash l < l.length then numb (l.drop (slash l + 1)) else 1) = l
    then ((numb (l.take (slash l)), if slash l < l.length then numb (l.drop (slash l + 1)) else 1), 0) else ((0, 0), 6)
/-- the reference's Read -/
def refReadT (l : List UInt8) : Te :=
  if l = neverS then ((1, 0), 0)
  else match digs (l.take (slash l)) with
    | none => ((0, 0), 6)
    | some n => if slash l < l.length then (match digs (l.drop (slash l + 1)) with
        | none => ((0, 0), 6)
        | some d => if 1 < d ∧ Tm.right ((n : Int), (d : Int)) = true then ((n, d), 0) else ((0, 0), 6))
      else ((n, 1), 0)

theorem text_fin {t : Tm} {n d : Nat} (f : Fin t n d) : textT t = if d = 1 then Lib.decDigits n else Lib.decDigits n ++ [47] ++ Lib.decDigits d := by
  have hp := f.pos
  unfold textT
  rw [if_pos f.right, f.eq]
  simp only
  rw [if_neg (by omega)]
  by_cases h : d = 1
  · subst h; rfl
  · rw [if_neg (by omega), if_neg h]; rfl
theorem Fin.max {t : Tm} {n d : Nat} (f : Fin t n d) : n ≤ maxI ∧ d ≤ maxI := ⟨f.ln, f.ld⟩

/-- what a right time's text is read as -/
theorem parts_fin {t : Tm} {n d : Nat} (f : Fin t n d) : (textT t).take (slash (textT t)) = Lib.decDigits n ∧ (d = 1 → ¬ slash (textT t) < (textT t).length) ∧ (d ≠ 1 → slash (textT t) < (textT t).length ∧ (textT t).drop (slash (textT t) + 1) = Lib.decDigits d) := by
  have hd := (dec_props n).2.1
  rw [text_fin f]
  by_cases h : d = 1
  · rw [if_pos h, slash_none hd]
    exact ⟨by simp, fun _ => by omega, fun h1 => absurd h h1⟩
  · rw [if_neg h, slash_mid hd]
    refine ⟨by simp, fun h1 => absurd h1 h, fun _ => ⟨by simp, ?_⟩⟩
    rw [List.append_assoc, List.drop_append]
    simp
theorem text_not_never {t : Tm} {n d : Nat} (f : Fin t n d) : textT t ≠ neverS := by
  intro h
  have hm : (110 : UInt8) ∈ textT t := by rw [h]; simp [neverS]
  have hn := (dec_props n).2.1
  have hd := (dec_props d).2.1
  have k : isDig 110 = false := by decide
  rw [text_fin f] at hm
  split at hm
  · have := hn _ hm; rw [k] at this; cases this
  · rcases List.mem_append.1 hm with hm | hm
    · rcases List.mem_append.1 hm with hm | hm
      · have := hn _ hm; rw [k] at this; cases this
      · exact absurd (List.mem_singleton.1 hm) (by decide)
    · have := hd _ hm; rw [k] at this; cases this

theorem read_text {t : Tm} (ho : t.ok) (h : t.right = true) : readT (textT t) = (t, 0) := by
  rcases right_cases ho h with rfl | ⟨n, d, f⟩
  · rfl
  · obtain ⟨p1, p2, p3⟩ := parts_fin f
    have hm := f.max
    have e : ((numb ((textT t).take (slash (textT t))), if slash (textT t) < (textT t).length then numb ((textT t).drop (slash (textT t) + 1)) else 1) : Tm) = t := by
      rw [p1, numb_dec hm.1]
      by_cases hd : d = 1
      · rw [if_neg (p2 hd), f.eq, hd]; rfl
      · rw [if_pos (p3 hd).1, (p3 hd).2, numb_dec hm.2, f.eq]
    unfold readT
    rw [if_neg (text_not_never f), e, if_pos ⟨h, rfl⟩]
theorem read_empty : readT [] = ((0, 0), 6) := by decide

theorem read_eq (l : List UInt8) : readT l = refReadT l := by
  by_cases hn : l = neverS
  · unfold readT refReadT; rw [if_pos hn, if_pos hn]
  · by_cases acc : Tm.right (numb (l.take (slash l)), if slash l < l.length then numb (l.drop (slash l + 1)) else 1) = true ∧ textT (numb (l.take (slash l)), if slash l < l.length then numb (l.drop (slash l + 1)) else 1) = l
    · unfold readT
      rw [if_neg hn, if_pos acc]
      obtain ⟨t, ht⟩ : ∃ t : Tm, ((numb (l.take (slash l)), if slash l < l.length then numb (l.drop (slash l + 1)) else 1) : Tm) = t := ⟨_, rfl⟩
      rw [ht] at acc ⊢
      have ho : t.ok := by
        rw [← ht]
        refine ⟨numb_ok _, ?_⟩
        simp only
        split
        · exact numb_ok _
        · unfold I64; omega
      rcases right_cases ho acc.1 with rfl | ⟨n, d, f⟩
      · exact absurd acc.2.symm hn
      · obtain ⟨p1, p2, p3⟩ := parts_fin f
        have hm := f.max
        have hp := f.pos
        rw [acc.2] at p1 p2 p3
        unfold refReadT
        rw [if_neg hn, p1, digs_dec hm.1]
        simp only
        by_cases hd : d = 1
        · rw [if_neg (p2 hd), f.eq, hd]; rfl
        · have hr := f.right
          rw [f.eq] at hr
          rw [if_pos (p3 hd).1, (p3 hd).2, digs_dec hm.2]
          simp only
          rw [if_pos ⟨by omega, hr⟩, f.eq]
    · have hrd : readT l = ((0, 0), 6) := by unfold readT; rw [if_neg hn, if_neg acc]
      rw [hrd]
      unfold refReadT
      rw [if_neg hn]
      rcases h1 : digs (l.take (slash l)) with _ | n
      · rfl
      · obtain ⟨ea, hna⟩ := digs_some h1
        simp only
        by_cases hs : slash l < l.length
        · rw [if_pos hs]
          rcases h2 : digs (l.drop (slash l + 1)) with _ | d
          · rfl
          · obtain ⟨eb, hdb⟩ := digs_some h2
            simp only
            by_cases hh : 1 < d ∧ Tm.right ((n : Int), (d : Int)) = true
            · exfalso
              apply acc
              rw [if_pos hs, ea, eb, numb_dec hna, numb_dec hdb]
              refine ⟨hh.2, ?_⟩
              have hl : l = Lib.decDigits n ++ [47] ++ Lib.decDigits d := by
                rw [← ea, ← eb]
                have h47 : l[slash l]'hs = 47 := by
                  have := List.findIdx_getElem (xs := l) (p := (· == 47)) (w := hs)
                  exact eq_of_beq this
                have := List.take_append_drop (slash l) l
                rw [List.drop_eq_getElem_cons hs, h47] at this
                rw [List.append_assoc]
                exact this.symm
              unfold textT
              rw [if_pos hh.2]
              simp only
              rw [if_neg (by omega), if_neg (by omega), hl]
              rfl
            · rw [if_neg hh]
        · exfalso
          apply acc
          have hle : slash l = l.length := Nat.le_antisymm List.findIdx_le_length (by omega)
          rw [hle, List.take_length] at ea
          rw [if_neg hs, hle, List.take_length, ea, numb_dec hna]
          have hr : Tm.right ((n : Int), 1) = true := by unfold Tm.right rightB; simp
          refine ⟨hr, ?_⟩
          unfold textT
          rw [if_pos hr]
          rfl
end Go.Proofs.YtoefekgfklillaaDoor
