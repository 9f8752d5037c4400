/- A track: plain laws. -/
import Derived.Test.YtcggeogpanackaaOrdLaw
namespace Go.Proofs.Ytcggeogpanackaa
open Go.RowKit Go.Kx

abbrev En := St × Int
/-- what a track holds -/
structure Trk (L : List En) : Prop where
  ok : ∀ e ∈ L, e.1.ok ∧ I64 e.2
  right : ∀ e ∈ L, stR e.1 = true ∧ e.1 ≠ ((1, 0), 0)
  rise : L.Pairwise fun a b => stC a.1 b.1 < 0
theorem Trk.nil : Trk [] := ⟨by simp, by simp, List.Pairwise.nil⟩
theorem stC_lt_le {a b c : St} (oa : a.ok) (ob : b.ok) (oc : c.ok) (ha : stR a = true) (hb : stR b = true) (hc : stR c = true) (h1 : stC a b < 0) (h2 : stC b c ≤ 0) : stC a c < 0 := by
  have h := stC_trans oa ob oc ha hb hc (by omega) h2
  have hn := stC_neg b a
  by_cases h0 : stC a c = 0
  · have e := (stC_zero oa oc ha hc).1 h0
    subst e
    omega
  · omega
theorem stC_le_lt {a b c : St} (oa : a.ok) (ob : b.ok) (oc : c.ok) (ha : stR a = true) (hb : stR b = true) (hc : stR c = true) (h1 : stC a b ≤ 0) (h2 : stC b c < 0) : stC a c < 0 := by
  have h := stC_trans oa ob oc ha hb hc h1 (by omega)
  have hn := stC_neg a b
  have hn2 := stC_neg b c
  by_cases h0 : stC a c = 0
  · have e := (stC_zero oa oc ha hc).1 h0
    subst e
    omega
  · omega
def aheadT (L : List En) (s : St) : Nat := L.countP fun e => decide (stC e.1 s < 0)
def upToT (L : List En) (s : St) : Nat := L.countP fun e => !decide (stC s e.1 < 0)
def paT (L : List En) (s : St) : List En := L.filter fun e => decide (stC e.1 s < 0)
def pbT (L : List En) (s : St) : List En := L.filter fun e => decide (stC e.1 s = 0)
def pcT (L : List En) (s : St) : List En := L.filter fun e => decide (0 < stC e.1 s)
theorem split_mono {α : Type} (q : α → Bool) : ∀ L : List α, L.Pairwise (fun a b => q b = true → q a = true) → L.take (L.countP q) = L.filter q ∧ L.drop (L.countP q) = L.filter (fun x => !q x)
  | [], _ => ⟨rfl, rfl⟩
  | a :: l, h => by
    obtain ⟨h1, h2⟩ := List.pairwise_cons.1 h
    obtain ⟨i1, i2⟩ := split_mono q l h2
    by_cases hq : q a = true
    · rw [List.countP_cons_of_pos hq, List.take_succ_cons, List.drop_succ_cons, i1, i2, List.filter_cons_of_pos hq, List.filter_cons_of_neg (by simp [hq])]
      exact ⟨rfl, rfl⟩
    · have hf : ∀ b ∈ l, ¬ q b = true := fun b hb k => hq (h1 b hb k)
      have h0 : (a :: l).countP q = 0 := by
        rw [List.countP_eq_zero]
        intro b hb
        rcases List.mem_cons.1 hb with rfl | hb
        · exact hq
        · exact hf b hb
      rw [h0]
      refine ⟨?_, ?_⟩
      · symm; rw [List.take_zero, List.filter_eq_nil_iff]
        intro b hb
        rcases List.mem_cons.1 hb with rfl | hb
        · exact hq
        · exact hf b hb
      · symm; rw [List.drop_zero, List.filter_eq_self]
        intro b hb
        rcases List.mem_cons.1 hb with rfl | hb
        · simp [hq]
        · simp [hf b hb]
theorem filter_two {α : Type} (p q : α → Bool) : ∀ L : List α, L.Pairwise (fun a b => q a = true → ¬ p b = true) → (∀ a ∈ L, p a = true → ¬ q a = true) → L.filter p ++ L.filter q = L.filter (fun x => p x || q x)
  | [], _, _ => rfl
  | a :: l, h, hd => by
    obtain ⟨h1, h2⟩ := List.pairwise_cons.1 h
    have ih := filter_two p q l h2 (fun b hb => hd b (List.mem_cons_of_mem _ hb))
    by_cases hp : p a = true
    · have hq := hd a (by simp) hp
      rw [List.filter_cons_of_pos hp, List.filter_cons_of_neg hq, List.filter_cons_of_pos (by simp [hp]), List.cons_append, ih]
    · by_cases hq : q a = true
      · have h0 : l.filter p = [] := by
          rw [List.filter_eq_nil_iff]
          exact fun b hb => h1 b hb hq
        rw [List.filter_cons_of_neg hp, List.filter_cons_of_pos hq, List.filter_cons_of_pos (by simp [hq]), ← ih, h0]
        rfl
      · rw [List.filter_cons_of_neg hp, List.filter_cons_of_neg hq, List.filter_cons_of_neg (by simp [hp, hq]), ih]
section
variable {L : List En} (h : Trk L) {s : St} (os : s.ok) (rs : stR s = true)
include h os rs
theorem Trk.mono_lt : L.Pairwise fun a b => stC b.1 s ≤ 0 → stC a.1 s < 0 := by
  refine h.rise.imp_of_mem ?_
  intro a b ha hb hab hbs
  exact stC_lt_le (h.ok a ha).1 (h.ok b hb).1 os (h.right a ha).1 (h.right b hb).1 rs hab hbs
theorem Trk.ahead : L.take (aheadT L s) = paT L s ∧ L.drop (aheadT L s) = pbT L s ++ pcT L s := by
  have hm := h.mono_lt os rs
  obtain ⟨h1, h2⟩ := split_mono (fun e : En => decide (stC e.1 s < 0)) L (hm.imp fun {a b} k hb => by simp at hb ⊢; exact k (by omega))
  refine ⟨h1, h2.trans ?_⟩
  unfold pbT pcT
  rw [filter_two]
  · refine List.filter_congr fun e _ => ?_
    rcases stC_range e.1 s with k | k | k <;> rw [k] <;> rfl
  · refine hm.imp fun {a b} k ha hb => ?_
    simp at ha hb
    have := k (by omega)
    omega
  · intro a _ k1 k2
    simp at k1 k2
    omega
theorem Trk.upTo : L.take (upToT L s) = paT L s ++ pbT L s ∧ L.drop (upToT L s) = pcT L s := by
  have hm := h.mono_lt os rs
  obtain ⟨h1, h2⟩ := split_mono (fun e : En => !decide (stC s e.1 < 0)) L (hm.imp fun {a b} k hb => by
    have n1 := stC_neg s a.1; have n2 := stC_neg s b.1
    simp at hb ⊢
    have := k (by omega)
    omega)
  refine ⟨h1.trans ?_, h2.trans ?_⟩
  · unfold paT pbT
    rw [filter_two]
    · refine List.filter_congr fun e _ => ?_
      have n := stC_neg s e.1
      rcases stC_range e.1 s with k | k | k <;> rw [n, k] <;> rfl
    · refine hm.imp fun {a b} k ha hb => ?_
      simp at ha hb
      have := k (by omega)
      omega
    · intro a _ k1 k2
      simp at k1 k2
      omega
  · unfold pcT
    refine List.filter_congr fun e _ => ?_
    have n := stC_neg s e.1
    rcases stC_range e.1 s with k | k | k <;> rw [n, k] <;> rfl
/-- level with s: one at most -/
theorem Trk.pb : pbT L s = [] ∨ ∃ x, pbT L s = [(s, x)] := by
  have hall : ∀ e ∈ pbT L s, e.1 = s := fun e he => by
    obtain ⟨h1, h2⟩ := List.mem_filter.1 he
    exact (stC_zero (h.ok e h1).1 os (h.right e h1).1 rs).1 (by simpa using h2)
  have hp : (pbT L s).Pairwise fun a b => stC a.1 b.1 < 0 := h.rise.filter _
  match hb : pbT L s with
  | [] => exact .inl rfl
  | [a] => right; have := hall a (by rw [hb]; simp); exact ⟨a.2, by rw [← this]⟩
  | a :: b :: l =>
    rw [hb] at hall hp
    have e1 := hall a (by simp)
    have e2 := hall b (by simp)
    have := (List.pairwise_cons.1 hp).1 b (by simp)
    have hz := (stC_zero os os rs rs).2 rfl
    rw [e1, e2] at this
    omega
end
theorem Trk.sub {L M : List En} (h : Trk L) (hs : M.Sublist L) : Trk M :=
  ⟨fun e he => h.ok e (hs.subset he), fun e he => h.right e (hs.subset he), h.rise.sublist hs⟩
theorem Trk.take {L : List En} (h : Trk L) (n : Nat) : Trk (L.take n) := h.sub (List.take_sublist _ _)
theorem Trk.drop {L : List En} (h : Trk L) (n : Nat) : Trk (L.drop n) := h.sub (List.drop_sublist _ _)
def lastC (L : List En) (s : St) : Int := match L.getLast? with | none => -1 | some e => stC e.1 s
/-- what Put answers -/
def putE (L : List En) (room : Int) (s : St) : Int :=
  if stR s = false ∨ s = ((1, 0), 0) then 1 else if ¬ lastC L s < 0 then 15 else if room ≤ (L.length : Int) then 14 else 0
def putL (L : List En) (room : Int) (s : St) (x : Int) : List En := if putE L room s = 0 then L ++ [(s, x)] else L
theorem putE_zero {L : List En} {room : Int} {s : St} (h : putE L room s = 0) : stR s = true ∧ s ≠ ((1, 0), 0) ∧ lastC L s < 0 ∧ (L.length : Int) < room := by
  unfold putE at h
  split at h
  · omega
  · rename_i h1
    split at h
    · omega
    · rename_i h2
      split at h
      · omega
      · rename_i h3
        refine ⟨?_, fun k => h1 (.inr k), by omega, by omega⟩
        cases hr : stR s with
        | true => rfl
        | false => exact absurd (.inl hr) h1
theorem Trk.snoc {L : List En} (h : Trk L) {s : St} (os : s.ok) {x : Int} (ox : I64 x) (rs : stR s = true) (hn : s ≠ ((1, 0), 0)) (hl : lastC L s < 0) : Trk (L ++ [(s, x)]) := by
  refine ⟨fun e he => ?_, fun e he => ?_, ?_⟩
  · rcases List.mem_append.1 he with he | he
    · exact h.ok e he
    · simp at he; subst he; exact ⟨os, ox⟩
  · rcases List.mem_append.1 he with he | he
    · exact h.right e he
    · simp at he; subst he; exact ⟨rs, hn⟩
  · rw [List.pairwise_append]
    refine ⟨h.rise, List.pairwise_singleton _ _, fun a ha b hb => ?_⟩
    simp at hb
    subst hb
    rcases List.eq_nil_or_concat L with rfl | ⟨M, l, rfl⟩
    · simp at ha
    · have hl' : stC l.1 s < 0 := by simpa [lastC] using hl
      rw [List.concat_eq_append] at ha h
      rcases List.mem_append.1 ha with hm | hm
      · have := (List.pairwise_append.1 h.rise).2.2 a hm l (by simp)
        have ma : a ∈ M ++ [l] := List.mem_append.2 (.inl hm)
        have ml : l ∈ M ++ [l] := by simp
        exact stC_lt_le (h.ok a ma).1 (h.ok l ml).1 os (h.right a ma).1 (h.right l ml).1 rs this (by simp; omega)
      · simp at hm; subst hm; exact hl'
theorem Trk.put {L : List En} (h : Trk L) {s : St} (os : s.ok) {x : Int} (ox : I64 x) (room : Int) : Trk (putL L room s x) := by
  unfold putL
  split
  · rename_i h0
    obtain ⟨rs, hn, hl, _⟩ := putE_zero h0
    exact h.snoc os ox rs hn hl
  · exact h
end Go.Proofs.Ytcggeogpanackaa
