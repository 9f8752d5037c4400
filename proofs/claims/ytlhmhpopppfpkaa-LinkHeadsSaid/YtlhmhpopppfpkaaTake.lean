/- Take. -/
import Derived.Test.YtlhmhpopppfpkaaNb
namespace Go.Proofs.Ytlhmhpopppfpkaa
open Go.RowKit Go.Kx Go.Maps
set_option maxRecDepth 100000

theorem nd_eq {Ls : List (Pr × Lane)} (hn : (Ls.map (·.1)).Nodup) {e f : Pr × Lane} (he : e ∈ Ls) (hf : f ∈ Ls) (h : e.1 = f.1) : e = f := by
  obtain ⟨i, hi⟩ := List.getElem?_of_mem he
  obtain ⟨j, hj⟩ := List.getElem?_of_mem hf
  have hil := (List.getElem?_eq_some_iff.1 hi).1
  have hjl := (List.getElem?_eq_some_iff.1 hj).1
  have h1 : (Ls.map (·.1))[i]'(by simpa using hil) = (Ls.map (·.1))[j]'(by simpa using hjl) := by
    rw [List.getElem_map, List.getElem_map, (List.getElem?_eq_some_iff.1 hi).2, (List.getElem?_eq_some_iff.1 hj).2]
    exact h
  have h2 := List.pairwise_iff_getElem.1 hn
  have hij : i = j := by
    rcases Nat.lt_trichotomy i j with h | h | h
    · exact absurd h1 (h2 i j (by simpa using hil) (by simpa using hjl) h)
    · exact h
    · exact absurd h1.symm (h2 j i (by simpa using hjl) (by simpa using hil) h)
  subst hij
  rw [hi] at hj
  exact Option.some.inj hj
theorem turnL_keys (Ls : List (Pr × Lane)) (p : Pr) (l : Lane) : (turnL Ls p l).map (·.1) = Ls.map (·.1) := by
  unfold turnL
  rw [List.map_map]
  refine List.map_congr_left fun e _ => ?_
  by_cases he : e.1 = p <;> simp [he]
theorem turnL_mem {Ls : List (Pr × Lane)} {p : Pr} {l : Lane} {e : Pr × Lane} (h : e ∈ turnL Ls p l) : e = (p, l) ∨ (e ∈ Ls ∧ e.1 ≠ p) := by
  unfold turnL at h
  obtain ⟨x, hx, rfl⟩ := List.mem_map.1 h
  by_cases hp : x.1 = p
  · rw [if_pos hp]; exact .inl rfl
  · rw [if_neg hp]; exact .inr ⟨hx, hp⟩
theorem turnL_in {Ls : List (Pr × Lane)} {p : Pr} {l0 l : Lane} (h : (p, l0) ∈ Ls) : (p, l) ∈ turnL Ls p l := List.mem_map.2 ⟨_, h, by simp⟩
theorem keyB_keys {Ls Ls' : List (Pr × Lane)} (h : Ls'.map (·.1) = Ls.map (·.1)) (p : Pr) : keyB Ls' p = keyB Ls p := by
  have f : ∀ M : List (Pr × Lane), keyB M p = (M.map (·.1)).any (· == p) := fun M => by unfold keyB; rw [List.any_map]; rfl
  rw [f, f, h]
theorem NB.turn {B : Nat} {w w' : World} {g bm n room : Nat} {Ls : List (Pr × Lane)} (h : NB B w g bm n room Ls) (hBw : B ≤ w.heap.size) {p : Pr} {l l' : Lane} (hp : (p, l) ∈ Ls) (hb : l'.b = l.b) (hs : l'.size = l.size) (hrb : l'.rb = l.rb ∨ w.heap.size ≤ l'.rb) (hrl : l'.rb < w'.heap.size)
    (hq : Qu w' l'.b l'.rb l'.size l'.xs) (o : Only [l.b, l.rb] w w') : NB B w' g bm n room (turnL Ls p l') := by
  obtain ⟨D, hD, hl⟩ := h.map
  have lop := h.lo _ hp
  have l1 := lop l.b (by simp)
  have l2 := lop l.rb (by simp)
  have g1 := h.blk.lt
  have m1 := h.mlt
  have hoth : ∀ e ∈ Ls, e.1 ≠ p → ∀ x ∈ e.2.bs, x ∉ [l.b, l.rb] := fun e he hne x hx hm => by
    obtain ⟨i, hi⟩ := List.getElem?_of_mem he
    obtain ⟨j, hj⟩ := List.getElem?_of_mem hp
    have hil := (List.getElem?_eq_some_iff.1 hi).1
    have hjl := (List.getElem?_eq_some_iff.1 hj).1
    have hpw := List.pairwise_iff_getElem.1 h.apart
    rcases Nat.lt_trichotomy i j with hij | hij | hij
    · have := hpw i j hil hjl hij
      rw [(List.getElem?_eq_some_iff.1 hi).2, (List.getElem?_eq_some_iff.1 hj).2] at this
      exact this x hx hm
    · subst hij
      rw [hi] at hj
      have := Option.some.inj hj
      exact hne (by rw [this])
    · have := hpw j i hjl hil hij
      rw [(List.getElem?_eq_some_iff.1 hi).2, (List.getElem?_eq_some_iff.1 hj).2] at this
      exact this x hm hx
  have hbs' : ∀ x ∈ l'.bs, x ∈ [l.b, l.rb] ∨ w.heap.size ≤ x := fun x hx => by
    simp at hx
    rcases hx with rfl | rfl
    · rw [hb]; simp
    · rcases hrb with h | h
      · rw [h]; simp
      · exact .inr h
  refine ⟨o.blk h.blk (by simp; omega), ⟨D, ?_, ?_⟩, fun e he => ?_, fun e he x hx => ?_, ?_, h.dims, h.base⟩
  · have : (turnL Ls p l').length = Ls.length := by simp [turnL]
    rw [this]
    exact ownsMap_of hD (o.block bm hD.lt (by simp; omega))
  · refine ⟨hl.tidy, by rw [hl.size_]; simp [turnL], by rw [turnL_keys]; exact hl.nd, fun e he => ?_, fun a b ha hb => ?_, fun e he z => ?_⟩
    · rcases turnL_mem he with rfl | ⟨h1, _⟩
      · have := hl.ok (p, l) hp
        exact this
      · exact hl.ok e h1
    · rw [hl.has_ a b ha hb, keyB_keys (turnL_keys Ls p l')]
    · rcases turnL_mem he with rfl | ⟨h1, _⟩
      · have := hl.at_ _ hp z
        rw [this, hb, hs]
      · exact hl.at_ e h1 z
  · rcases turnL_mem he with rfl | ⟨h1, h2⟩
    · exact ⟨hq, by rw [hs]; exact (h.qu _ hp).2⟩
    · have hn := hoth e h1 h2
      exact ⟨(h.qu e h1).1.only o (hn _ (by simp)) (hn _ (by simp)), (h.qu e h1).2⟩
  · have hsz := o.size
    rcases turnL_mem he with rfl | ⟨h1, h2⟩
    · simp at hx
      rcases hx with rfl | rfl
      · rw [hb]; exact ⟨by omega, by omega, by omega, by omega⟩
      · rcases hrb with h | h
        · rw [h] at hrl ⊢
          exact ⟨by omega, by omega, by omega, by omega⟩
        · exact ⟨by omega, hrl, by omega, by omega⟩
    · have := h.lo e h1 x hx
      exact ⟨by omega, by omega, by omega, by omega⟩
  · unfold turnL
    rw [List.pairwise_map]
    refine h.apart.imp_of_mem fun {a b} ha hb' hab x hx hm => ?_
    by_cases h1 : a.1 = p
    · by_cases h2 : b.1 = p
      · have e1 := nd_eq hl.nd ha hp h1
        have e2 := nd_eq hl.nd hb' hp h2
        rw [e1, e2] at hab
        exact hab l.b (by simp) (by simp)
      · rw [if_pos h1] at hx
        rw [if_neg h2] at hm
        rcases hbs' x hx with h3 | h3
        · exact hoth b hb' h2 x hm h3
        · have := h.lo b hb' x hm
          omega
    · rw [if_neg h1] at hx
      by_cases h2 : b.1 = p
      · rw [if_pos h2] at hm
        rcases hbs' x hm with h3 | h3
        · exact hoth a ha h1 x hx h3
        · have := h.lo a ha x hx
          omega
      · rw [if_neg h2] at hm
        exact hab x hx hm
theorem field61 (x y : Value) (W : World) : (Instr.field 61 (.agg #[x, y]) 0).run Try.prog W = .ok x W := by kernel_rfl
/-- what is on a link -/
def laneX (Ls : List (Pr × Lane)) (p : Pr) : List Int := ((Ls.find? fun e => e.1 == p).map fun e => e.2.xs).getD []
theorem laneX_in {Ls : List (Pr × Lane)} (hn : (Ls.map (·.1)).Nodup) {p : Pr} {l : Lane} (h : (p, l) ∈ Ls) : laneX Ls p = l.xs := by
  unfold laneX
  cases hf : Ls.find? (fun e => e.1 == p) with
  | none =>
    rw [List.find?_eq_none] at hf
    exact absurd (beq_self_eq_true p) (by simpa using hf _ h)
  | some e =>
    have h1 := List.find?_some hf
    have h2 := nd_eq hn (List.mem_of_find?_eq_some hf) h (by simpa using h1)
    rw [h2]
    rfl
theorem laneX_out {Ls : List (Pr × Lane)} {p : Pr} (h : keyB Ls p = false) : laneX Ls p = [] := by
  unfold laneX
  rw [List.find?_eq_none.2 fun e he => by simpa using keyB_false h e he]
  rfl
def hdI (xs : List Int) : Int := xs.headD 0
def anyI (xs : List Int) : Bool := !xs.isEmpty
/-- all but the first one -/
def tailX (Ls : List (Pr × Lane)) (p : Pr) : List (Pr × Lane) := Ls.map fun e => if e.1 = p then (p, { e.2 with xs := e.2.xs.tail }) else e
theorem tailX_turn {Ls : List (Pr × Lane)} (hn : (Ls.map (·.1)).Nodup) {p : Pr} {l : Lane} (h : (p, l) ∈ Ls) : tailX Ls p = turnL Ls p { l with xs := l.xs.tail } := by
  unfold tailX turnL
  refine List.map_congr_left fun e he => ?_
  by_cases hp : e.1 = p
  · rw [if_pos hp, if_pos hp, nd_eq hn he h hp]
  · rw [if_neg hp, if_neg hp]
theorem tailX_out {Ls : List (Pr × Lane)} {p : Pr} (h : keyB Ls p = false) : tailX Ls p = Ls := by
  unfold tailX
  conv => rhs; rw [← List.map_id Ls]
  refine List.map_congr_left fun e he => ?_
  rw [if_neg (keyB_false h e he)]
  rfl
set_option maxHeartbeats 1000000 in
theorem take_any {B : Nat} {w : World} {g bm n room : Nat} {Ls : List (Pr × Lane)} (h : NB B w g bm n room Ls) (hBw : B ≤ w.heap.size) {a b : Int} (ha : I64 a) (hb : I64 b) :
    Calls Try.prog 11 #[.pointer (some ⟨g, 0, none⟩), .int .i64 a, .int .i64 b] w fun e w' => e = .returned (.tuple #[.int .i64 (hdI (laneX Ls (a, b))), .bool (anyI (laneX Ls (a, b)))]) ∧ NB B w' g bm n room (tailX Ls (a, b)) ∧ Only (netS bm Ls) w w' := by
  obtain ⟨g0, g1, g2, gl⟩ := h.blk.facts3
  obtain ⟨D, hD, hl⟩ := h.map
  have hf0 := field61 (.pointer none) (.int .i64 0)
  have hf1 := fun (b s : Nat) => field61 (.pointer (some ⟨b, 0, none⟩)) (.int .i64 s)
  cases hk : keyB Ls (a, b) with
  | false =>
    rw [laneX_out hk, tailX_out hk]
    have hat : D.atKey (kl a b) (.held lz) = .held lz := atKey_of_not_has (by rw [hl.has_ a b ha hb, hk]) _
    have HN := Lib.hid h
    clear hl h
    go_enter Try.func11, Try.ntmps11
    go_wp2_with (at_lookup; refine wpList_lookup_held _ rfl _ _ 56 rfl 50 61 law50 Try.underlying56 (zero61 _) bm Ls.length D rfl hD _ _ rfl (key_of ha hb) lz hat ?_)
    refine (pop_nilq w).mono ?_
    rintro e w1 ⟨rfl, o1⟩
    go_wp2_with (fail)
    go_ret2
    exact ⟨rfl, HN.out.keep o1, o1.mono (fun _ h => by simp at h)⟩
  | true =>
    obtain ⟨l, hp⟩ := keyB_iff.1 hk
    rw [laneX_in hl.nd hp, tailX_turn hl.nd hp]
    have hat := hl.at_ _ hp (.held lz)
    have hq := (h.qu _ hp).1
    have lo := h.lo _ hp
    have HN := Lib.hid h
    have hS : ∀ x ∈ [l.b, l.rb], x ∈ netS bm Ls := fun x hx => List.mem_cons_of_mem _ (List.mem_flatMap.2 ⟨_, hp, hx⟩)
    dsimp only at hat hq lo
    have HL := Lib.hid hl
    clear hl h
    cases hx : l.xs with
    | nil =>
      rw [hx] at hq
      go_enter Try.func11, Try.ntmps11
      go_wp2_with (at_lookup; refine wpList_lookup_held _ rfl _ _ 56 rfl 50 61 law50 Try.underlying56 (zero61 _) bm Ls.length D rfl hD _ _ rfl (key_of ha hb) _ hat ?_)
      refine (pop_none hq).mono ?_
      rintro e w1 ⟨rfl, o1⟩
      go_wp2_with (fail)
      go_ret2
      exact ⟨rfl, HN.out.turn hBw hp rfl rfl (.inl rfl) (by have := o1.size; have := lo l.rb (by simp); dsimp only; omega) (by have h := hq.only o1 (by simp) (by simp); exact h) (o1.mono (fun _ h => by simp at h)), o1.mono (fun _ h => by simp at h)⟩
    | cons y r =>
      rw [hx] at hq
      go_enter Try.func11, Try.ntmps11
      go_wp2_with (at_lookup; refine wpList_lookup_held _ rfl _ _ 56 rfl 50 61 law50 Try.underlying56 (zero61 _) bm Ls.length D rfl hD _ _ rfl (key_of ha hb) _ hat ?_)
      refine (pop_some hq).mono ?_
      rintro e w1 ⟨rfl, q1, o1⟩
      have HQ := Lib.hid q1
      have HO := Lib.hid o1
      clear q1 o1
      go_wp2_with (fail)
      go_ret2
      exact ⟨rfl, HN.out.turn hBw hp rfl rfl (.inl rfl) (by have := HO.out.size; have := lo l.rb (by simp); dsimp only; omega) HQ.out HO.out, HO.out.mono (fun x h => .inl (hS x h))⟩
end Go.Proofs.Ytlhmhpopppfpkaa
