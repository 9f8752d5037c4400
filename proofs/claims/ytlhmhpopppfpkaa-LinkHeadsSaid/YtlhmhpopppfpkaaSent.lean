/- Send, told by what is on the links. -/
import Derived.Test.YtlhmhpopppfpkaaSend
namespace Go.Proofs.Ytlhmhpopppfpkaa
open Go.RowKit Go.Kx Go.Maps
set_option maxRecDepth 100000

theorem NB.nd {B : Nat} {w : World} {g bm n room : Nat} {Ls : List (Pr × Lane)} (h : NB B w g bm n room Ls) : (Ls.map (·.1)).Nodup := by
  obtain ⟨D, _, hl⟩ := h.map
  exact hl.nd
theorem laneX_turn {Ls : List (Pr × Lane)} (hn : (Ls.map (·.1)).Nodup) {p : Pr} {l l' : Lane} (hp : (p, l) ∈ Ls) (q : Pr) : laneX (turnL Ls p l') q = if q = p then l'.xs else laneX Ls q := by
  have hn' : ((turnL Ls p l').map (·.1)).Nodup := by rw [turnL_keys]; exact hn
  by_cases h : q = p
  · subst h
    rw [if_pos rfl]
    exact laneX_in hn' (turnL_in hp)
  · rw [if_neg h]
    exact laneX_of (fun e he => turnL_other (by rw [he]; exact h)) hn hn'
theorem putL_nd {Ls : List (Pr × Lane)} (hn : (Ls.map (·.1)).Nodup) (p : Pr) (l : Lane) : ((putL Ls p l).map (·.1)).Nodup := by
  cases hk : keyB Ls p with
  | true => rw [putL_keys_in hk]; exact hn
  | false =>
    unfold putL
    rw [if_neg (by rw [hk]; decide), List.map_append, List.nodup_append]
    refine ⟨hn, by simp, fun x hx y hy => ?_⟩
    simp at hy
    subst hy
    obtain ⟨e, he, rfl⟩ := List.mem_map.1 hx
    exact keyB_false hk e he
theorem laneX_put {Ls : List (Pr × Lane)} (hn : (Ls.map (·.1)).Nodup) {p : Pr} {l : Lane} (hx : l.xs = laneX Ls p) (q : Pr) : laneX (putL Ls p l) q = laneX Ls q := by
  by_cases h : q = p
  · subst h
    rw [laneX_in (putL_nd hn _ _) (putL_in _ _ _), hx]
  · exact laneX_of (fun e he => putL_other (by rw [he]; exact h)) hn (putL_nd hn _ _)
theorem putL_len (Ls : List (Pr × Lane)) (p : Pr) (l : Lane) : (putL Ls p l).length ≤ Ls.length + 1 := by
  unfold putL
  split
  · simp
  · simp
/-- one more on a link -/
structure Sent (Ls Ls' : List (Pr × Lane)) (p : Pr) (v : Int) : Prop where
  at_ : ∀ q, laneX Ls' q = if q = p then laneX Ls q ++ [v] else laneX Ls q
  tot : total Ls' = total Ls + 1
  len : Ls'.length ≤ Ls.length + 1
theorem Sent.fit {Ls : List (Pr × Lane)} (hn : (Ls.map (·.1)).Nodup) {p : Pr} {l l' : Lane} {v : Int} (hp : (p, l) ∈ Ls) (hx : l'.xs = l.xs ++ [v]) : Sent Ls (turnL Ls p l') p v := by
  refine ⟨fun q => ?_, ?_, by simp [turnL]⟩
  · rw [laneX_turn hn hp]
    by_cases h : q = p
    · subst h
      rw [if_pos rfl, if_pos rfl, hx, laneX_in hn hp]
    · rw [if_neg h, if_neg h]
  · have := total_turn (l' := l') hn hp
    rw [hx, List.length_append] at this
    simp at this
    omega
theorem Sent.grow {Ls : List (Pr × Lane)} (hn : (Ls.map (·.1)).Nodup) {p : Pr} {l l' : Lane} {v : Int} (hl : l.xs = laneX Ls p) (hx : l'.xs = l.xs ++ [v]) : Sent Ls (turnL (putL Ls p l) p l') p v := by
  have h := Sent.fit (putL_nd hn p l) (putL_in Ls p l) hx
  refine ⟨fun q => ?_, ?_, ?_⟩
  · rw [h.at_ q, laneX_put hn hl]
  · rw [h.tot, total_put hn hl]
  · have h1 : (turnL (putL Ls p l) p l').length = (putL Ls p l).length := by simp [turnL]
    rw [h1]
    exact putL_len _ _ _
theorem netS_turn {bm c : Nat} {Ls : List (Pr × Lane)} {p : Pr} {l' : Lane} (h : ∀ x ∈ l'.bs, x ∈ netS bm Ls ∨ c ≤ x) : ∀ x ∈ netS bm (turnL Ls p l'), x ∈ netS bm Ls ∨ c ≤ x := fun x hx => by
  rcases List.mem_cons.1 hx with rfl | hx
  · exact .inl (by simp)
  · obtain ⟨e, he, hx⟩ := List.mem_flatMap.1 hx
    rcases turnL_mem he with rfl | ⟨h1, _⟩
    · exact h x hx
    · exact .inl (List.mem_cons_of_mem _ (List.mem_flatMap.2 ⟨e, h1, hx⟩))
theorem netS_put {bm c : Nat} {Ls : List (Pr × Lane)} {p : Pr} {l l' : Lane} (h : ∀ x ∈ l'.bs, c ≤ x) : ∀ x ∈ netS bm (turnL (putL Ls p l) p l'), x ∈ netS bm Ls ∨ c ≤ x := fun x hx => by
  rcases List.mem_cons.1 hx with rfl | hx
  · exact .inl (by simp)
  · obtain ⟨e, he, hx⟩ := List.mem_flatMap.1 hx
    rcases turnL_mem he with rfl | ⟨h1, h2⟩
    · exact .inr (h x hx)
    · rcases putL_mem h1 with rfl | ⟨h1, _⟩
      · exact absurd rfl h2
      · exact .inl (List.mem_cons_of_mem _ (List.mem_flatMap.2 ⟨e, h1, hx⟩))
def sendE (n room : Nat) (Ls : List (Pr × Lane)) (a b : Int) : Int := if Bad n a b then 1 else if room ≤ (laneX Ls (a, b)).length then 14 else 0
theorem send_any {B : Nat} {w : World} {g bm n room : Nat} {Ls : List (Pr × Lane)} (h : NB B w g bm n room Ls) (hBw : B ≤ w.heap.size) {a b : Int} (v : Int) (ha : I64 a) (hb : I64 b) (hlen : Ls.length ≤ 1048576) :
    Calls Try.prog 10 #[.pointer (some ⟨g, 0, none⟩), .int .i64 a, .int .i64 b, .int .i64 v] w fun e w' => e = .returned (.int .i64 (sendE n room Ls a b)) ∧ ∃ Ls', NB B w' g bm n room Ls' ∧ (sendE n room Ls a b = 0 → Sent Ls Ls' (a, b) v) ∧ (sendE n room Ls a b ≠ 0 → Ls' = Ls) ∧ Only (netS bm Ls) w w' ∧ ∀ x ∈ netS bm Ls', x ∈ netS bm Ls ∨ w.heap.size ≤ x := by
  have hn := h.nd
  have hr1 := h.dims.2.2.1
  by_cases hbad : Bad n a b
  · have e0 : sendE n room Ls a b = 1 := by unfold sendE; rw [if_pos hbad]
    rw [e0]
    exact (send_bad h v hbad).mono fun e w' ⟨he, o⟩ => ⟨he, Ls, h.keep o, (fun k => by cases k), (fun _ => rfl), o.mono (fun _ h => by simp at h), fun _ h => .inl h⟩
  · cases hk : keyB Ls (a, b) with
    | false =>
      have e0 : sendE n room Ls a b = 0 := by unfold sendE; rw [if_neg hbad, laneX_out hk, if_neg (by simp; omega)]
      rw [e0]
      exact (send_new h hBw v ha hb hbad hk hlen).mono fun e w' ⟨he, ⟨b', rb1, rb', N, hbb, hN⟩, o⟩ => ⟨he, _, hN, (fun _ => Sent.grow hn (by rw [laneX_out hk]) rfl), (fun k => absurd rfl k), o, netS_put (fun x hx => by simp at hx; rcases hx with rfl | rfl <;> omega)⟩
    | true =>
      obtain ⟨l, hp⟩ := keyB_iff.1 hk
      obtain ⟨hq, hs1, hs2⟩ := h.qu _ hp
      have hxl := hq.len
      dsimp only at hxl hs1 hs2
      have hlx := laneX_in hn hp
      by_cases hlt : l.xs.length < l.size
      · have e0 : sendE n room Ls a b = 0 := by unfold sendE; rw [if_neg hbad, hlx, if_neg (by omega)]
        rw [e0]
        exact (send_fit h hBw v ha hb hbad hp hlt).mono fun e w' ⟨he, ⟨rb', hrb, hN⟩, o⟩ => ⟨he, _, hN, (fun _ => Sent.fit hn hp rfl), (fun k => absurd rfl k), o, netS_turn (fun x hx => by
          simp at hx
          have hin : ∀ y ∈ l.bs, y ∈ netS bm Ls := fun y hy => List.mem_cons_of_mem _ (List.mem_flatMap.2 ⟨_, hp, hy⟩)
          rcases hx with rfl | rfl
          · exact .inl (hin _ (by simp))
          · rcases hrb with h | h
            · exact .inl (hin _ (by simp [h]))
            · exact .inr h)⟩
      · by_cases hfull : room ≤ l.size
        · have e0 : sendE n room Ls a b = 14 := by unfold sendE; rw [if_neg hbad, hlx, if_pos (by omega)]
          rw [e0]
          exact (send_full h hBw v ha hb hbad hp (by omega) hfull).mono fun e w' ⟨he, o⟩ => ⟨he, Ls, h.keep o, (fun k => by cases k), (fun _ => rfl), o.mono (fun _ h => by simp at h), fun _ h => .inl h⟩
        · have e0 : sendE n room Ls a b = 0 := by unfold sendE; rw [if_neg hbad, hlx, if_neg (by omega)]
          rw [e0]
          exact (send_grow h hBw v ha hb hbad hp (by omega) (by omega) hlen).mono fun e w' ⟨he, ⟨b', rb1, rb', N, hbb, hN⟩, o⟩ => ⟨he, _, hN, (fun _ => Sent.grow hn hlx.symm rfl), (fun k => absurd rfl k), o, netS_put (fun x hx => by simp at hx; rcases hx with rfl | rfl <;> omega)⟩
end Go.Proofs.Ytlhmhpopppfpkaa
