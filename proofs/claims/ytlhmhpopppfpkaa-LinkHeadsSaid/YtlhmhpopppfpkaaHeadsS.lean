/- The first ones are taken, one on each link. -/
import Derived.Test.YtlhmhpopppfpkaaAllS
namespace Go.Proofs.Ytlhmhpopppfpkaa
open Go.RowKit Go.Kx Go.Maps
set_option maxRecDepth 20000

def VK (n : Nat) (Ls : List (Pr × Lane)) : Prop := ∀ p, laneX Ls p ≠ [] → p ∈ prs n
theorem VK.nil (n : Nat) : VK n [] := fun p h => absurd rfl h
theorem prs_in {n : Nat} {a b : Int} (h : ¬ Bad n a b) : ((a, b) : Pr) ∈ prs n := by
  unfold Bad at h
  obtain ⟨x, rfl⟩ : ∃ x : Nat, a = x := ⟨a.toNat, by omega⟩
  obtain ⟨y, rfl⟩ : ∃ y : Nat, b = y := ⟨b.toNat, by omega⟩
  exact List.mem_of_getElem? (prs_at (n := n) (a := x) (b := y) (by omega) (by omega) (by omega))
theorem VK.sent {n room : Nat} {Ls Ls' : List (Pr × Lane)} {a b v : Int} (h : VK n Ls) (h0 : sendE n room Ls a b = 0 → Sent Ls Ls' (a, b) v) (h1 : sendE n room Ls a b ≠ 0 → Ls' = Ls) : VK n Ls' := fun p hp => by
  by_cases e : sendE n room Ls a b = 0
  · have s := h0 e
    rw [s.at_] at hp
    by_cases hq : p = (a, b)
    · subst hq
      refine prs_in (fun hb => ?_)
      unfold sendE at e
      rw [if_pos hb] at e
      cases e
    · rw [if_neg hq] at hp
      exact h p hp
  · rw [h1 e] at hp
    exact h p hp
theorem tailX_keys (Ls : List (Pr × Lane)) (p : Pr) : (tailX Ls p).map (·.1) = Ls.map (·.1) := by
  unfold tailX
  rw [List.map_map]
  refine List.map_congr_left fun e _ => ?_
  dsimp only [Function.comp]
  split
  · rename_i h; exact h.symm
  · rfl
theorem VK.took {n : Nat} {Ls : List (Pr × Lane)} (h : VK n Ls) (hn : (Ls.map (·.1)).Nodup) (p : Pr) : VK n (tailX Ls p) := fun q hq => by
  rw [laneX_tail hn] at hq
  split at hq
  · exact h q (fun e => hq (by rw [e]; rfl))
  · exact h q hq
def takeAll (Ls : List (Pr × Lane)) (ps : List Pr) : List (Pr × Lane) := ps.foldl tailX Ls
theorem takeAll_snoc (Ls : List (Pr × Lane)) (ps : List Pr) (p : Pr) : takeAll Ls (ps ++ [p]) = tailX (takeAll Ls ps) p := by simp [takeAll]
theorem takeAll_keys : ∀ (ps : List Pr) (Ls : List (Pr × Lane)), (takeAll Ls ps).map (·.1) = Ls.map (·.1)
  | [], _ => rfl
  | p :: ps, Ls => (takeAll_keys ps (tailX Ls p)).trans (tailX_keys Ls p)
theorem takeAll_bs {bm : Nat} : ∀ (ps : List Pr) (Ls : List (Pr × Lane)), ∀ x ∈ netS bm (takeAll Ls ps), x ∈ netS bm Ls
  | [], _, _, hx => hx
  | p :: ps, Ls, x, hx => tailX_bs x (takeAll_bs ps (tailX Ls p) x hx)
theorem takeAll_length : ∀ (ps : List Pr) (Ls : List (Pr × Lane)), (takeAll Ls ps).length = Ls.length
  | [], _ => rfl
  | p :: ps, Ls => (takeAll_length ps (tailX Ls p)).trans (tailX_length Ls p)
theorem takeAll_VK {n : Nat} : ∀ (ps : List Pr) (Ls : List (Pr × Lane)), (Ls.map (·.1)).Nodup → VK n Ls → VK n (takeAll Ls ps)
  | [], _, _, h => h
  | p :: ps, Ls, hn, h => takeAll_VK ps (tailX Ls p) (by rw [tailX_keys]; exact hn) (h.took hn p)
theorem takeAll_lane {q : Pr} : ∀ (ps : List Pr) (Ls : List (Pr × Lane)), (Ls.map (·.1)).Nodup → q ∉ ps → laneX (takeAll Ls ps) q = laneX Ls q
  | [], _, _, _ => rfl
  | p :: ps, Ls, hn, h => by
    show laneX (takeAll (tailX Ls p) ps) q = _
    rw [takeAll_lane ps (tailX Ls p) (by rw [tailX_keys]; exact hn) (fun hm => h (List.mem_cons_of_mem _ hm)), laneX_tail hn, if_neg (fun e => h (by simp [e]))]
theorem takeAll_total : ∀ (ps : List Pr) (Ls : List (Pr × Lane)), (Ls.map (·.1)).Nodup → ps.Nodup → (∀ p ∈ ps, laneX Ls p ≠ []) → total (takeAll Ls ps) + ps.length = total Ls
  | [], _, _, _, _ => by simp [takeAll]
  | p :: ps, Ls, hn, hps, h => by
    have h1 := total_tail hn p
    rw [if_neg (h p (by simp))] at h1
    have hp := List.nodup_cons.1 hps
    have h2 := takeAll_total ps (tailX Ls p) (by rw [tailX_keys]; exact hn) hp.2 (fun q hq => by
      rw [laneX_tail hn, if_neg (fun e => hp.1 (by rw [← e]; exact hq))]
      exact h q (by simp [hq]))
    show total (takeAll (tailX Ls p) ps) + (p :: ps).length = _
    rw [List.length_cons]
    omega
def hdQ (Ls : List (Pr × Lane)) (ps : List Pr) : List Pr := ps.filter fun p => anyI (laneX Ls p)
theorem hdP_pairs (Ls : List (Pr × Lane)) : ∀ ps : List Pr, (hdP Ls ps).map (·.1) = hdQ Ls ps
  | [] => rfl
  | p :: ps => by
    have ih := hdP_pairs Ls ps
    unfold hdP hdQ at *
    rw [List.flatMap_cons, List.map_append, ih]
    cases hx : laneX Ls p with
    | nil => rw [List.filter_cons_of_neg (by simp [hx, anyI])]; rfl
    | cons y r => rw [List.filter_cons_of_pos (by simp [hx, anyI])]; rfl
theorem hdP_val {Ls : List (Pr × Lane)} {ps : List Pr} {e : It} (h : e ∈ hdP Ls ps) : e.2 = hdI (laneX Ls e.1) ∧ anyI (laneX Ls e.1) = true := by
  unfold hdP at h
  obtain ⟨p, _, h⟩ := List.mem_flatMap.1 h
  obtain ⟨v, hv, rfl⟩ := List.mem_map.1 h
  cases hx : laneX Ls p with
  | nil => rw [hx] at hv; simp at hv
  | cons y r => rw [hx] at hv; simp at hv; subst hv; exact ⟨by simp [hdI, hx], by simp [anyI, hx]⟩
theorem prs_nodup {n : Nat} (h : n ≤ 8) : (prs n).Nodup := by
  have all : ∀ n, n < 9 → (prs n).Nodup := of_decide_eq_true (by kernel_rfl)
  exact all n (by omega)
theorem hdQ_nodup {n : Nat} (h : n ≤ 8) (Ls : List (Pr × Lane)) : (hdQ Ls (prs n)).Nodup := (prs_nodup h).sublist List.filter_sublist
theorem total_pos {Ls : List (Pr × Lane)} (hn : (Ls.map (·.1)).Nodup) (h : 0 < total Ls) : ∃ p, laneX Ls p ≠ [] := by
  have key : ∀ L : List (Pr × Lane), 0 < total L → ∃ e ∈ L, e.2.xs ≠ [] := by
    intro L
    induction L with
    | nil => intro h; simp [total] at h
    | cons e L ih =>
      intro h
      by_cases he : e.2.xs = []
      · obtain ⟨f, hf, hx⟩ := ih (by simpa [total, he] using h)
        exact ⟨f, List.mem_cons_of_mem _ hf, hx⟩
      · exact ⟨e, by simp, he⟩
  obtain ⟨⟨p, l⟩, he, hx⟩ := key Ls h
  exact ⟨p, by rw [laneX_in hn he]; exact hx⟩
theorem hdQ_pos {n : Nat} {Ls : List (Pr × Lane)} (hn : (Ls.map (·.1)).Nodup) (hv : VK n Ls) (h : 0 < total Ls) : 0 < (hdQ Ls (prs n)).length := by
  obtain ⟨p, hp⟩ := total_pos hn h
  refine List.length_pos_iff.2 (List.ne_nil_of_mem (List.mem_filter.2 ⟨hv p hp, ?_⟩))
  unfold anyI
  cases hx : laneX Ls p with
  | nil => exact absurd hx hp
  | cons y r => rfl
theorem hdQ_ne {Ls : List (Pr × Lane)} {ps : List Pr} {p : Pr} (h : p ∈ hdQ Ls ps) : laneX Ls p ≠ [] := fun e => by
  have := (List.mem_filter.1 h).2
  rw [e] at this
  cases this
theorem hdP_congr {Ls Cs : List (Pr × Lane)} (h : ∀ q, laneX Cs q = laneX Ls q) (ps : List Pr) : hdP Cs ps = hdP Ls ps := flat_congr' ps (fun p _ => by rw [h])
/-- what the loop's list of deferred calls leaves -/
theorem leaves_all {P : Program} {fn : Func} {tmps : Array Value} {R : Ending → World → Prop} {B : Nat} : ∀ (Ds : List Nat) (W : World), Ds.Nodup → (∀ D ∈ Ds, W.heap[D]? = some (.deferred (some [])) ∧ B ≤ D) →
    (∀ W', KeepC B W W' → LeavesIn Fence.wide 9 P fn tmps R [] .returning W') → LeavesInM Fence.wide 9 P fn tmps R (Ds.map fun D => ({ target := .collected D, args := #[] } : Deferred)) .returning W
  | [], W, _, _, h => h W (KeepC.refl _ _)
  | D :: Ds, W, hn, hD, h => by
    have hp := List.nodup_cons.1 hn
    have h0 := hD D (by simp)
    refine ⟨by simp, .inl ⟨_, _, rfl, run_takeDeferred h0.1, ?_⟩⟩
    refine leaves_all Ds _ hp.2 (fun E hE => ⟨(World.putObj_heap_other (fun e => hp.1 (by rw [← e]; exact hE))).trans (hD E (by simp [hE])).1, (hD E (by simp [hE])).2⟩) (fun W' hk => h W' ((KeepC.putObj h0.1 rfl h0.2).trans hk))
/-- the program's net, and the cell that leads to it -/
structure HX (w1 w : World) (g bm n : Nat) (Ls : List (Pr × Lane)) (xb : Nat) : Prop where
  nb : NB w1.heap.size w g bm n 50 Ls
  x : Blk w xb 24 #[.pointer (some ⟨g, 0, none⟩)]
  off : xb ∉ g :: netS bm Ls
  o : Only [] w1 w
  vk : VK n Ls
theorem HX.keep {w1 w w' : World} {g bm n : Nat} {Ls : List (Pr × Lane)} {xb : Nat} (h : HX w1 w g bm n Ls xb) (o : Only [] w w') : HX w1 w' g bm n Ls xb :=
  ⟨h.nb.keep o, o.blk h.x (by simp), h.off, h.o.trans o (by simp), h.vk⟩
theorem send_hx {w1 w : World} {g bm n : Nat} {Ls : List (Pr × Lane)} {xb : Nat} (h : HX w1 w g bm n Ls xb) {a b : Int} (v : Int) (ha : I64 a) (hb : I64 b) (hlen : Ls.length ≤ 1048576) :
    Calls Try.prog 10 #[.pointer (some ⟨g, 0, none⟩), .int .i64 a, .int .i64 b, .int .i64 v] w fun e w' => e = .returned (.int .i64 (sendE n 50 Ls a b)) ∧ ∃ Ls', HX w1 w' g bm n Ls' xb ∧ Ls'.length ≤ Ls.length + 1 ∧ total Ls' ≤ total Ls + 1 := by
  refine (send_any h.nb h.o.size v ha hb hlen).mono ?_
  rintro e w' ⟨he, Ls', hN, h0, h1, o, hf⟩
  refine ⟨he, Ls', ⟨hN, o.blk h.x (fun hm => h.off (List.mem_cons_of_mem _ hm)), fun hm => ?_, h.o.trans o (h.nb.fresh (Nat.le_refl _)), h.vk.sent h0 h1⟩, ?_, ?_⟩
  · rcases List.mem_cons.1 hm with hm | hm
    · exact h.off (by simp [hm])
    · rcases hf _ hm with h2 | h2
      · exact h.off (List.mem_cons_of_mem _ h2)
      · have := h.x.lt; omega
  · by_cases e0 : sendE n 50 Ls a b = 0
    · exact (h0 e0).len
    · rw [h1 e0]; omega
  · by_cases e0 : sendE n 50 Ls a b = 0
    · have := (h0 e0).tot; omega
    · rw [h1 e0]; omega
theorem take_hx {w1 w : World} {g bm n : Nat} {Ls : List (Pr × Lane)} {xb : Nat} (h : HX w1 w g bm n Ls xb) {a b : Int} (ha : I64 a) (hb : I64 b) :
    Calls Try.prog 11 #[.pointer (some ⟨g, 0, none⟩), .int .i64 a, .int .i64 b] w fun e w' => e = .returned (.tuple #[.int .i64 (hdI (laneX Ls (a, b))), .bool (anyI (laneX Ls (a, b)))]) ∧ HX w1 w' g bm n (tailX Ls (a, b)) xb ∧ Only (netS bm Ls) w w' :=
  (take_any h.nb h.o.size ha hb).mono fun _ _ ⟨he, hN, o⟩ => ⟨he, ⟨hN, o.blk h.x (fun hm => h.off (List.mem_cons_of_mem _ hm)), fun hm => h.off (by
    rcases List.mem_cons.1 hm with hm | hm
    · simp [hm]
    · exact List.mem_cons_of_mem _ (tailX_bs _ hm)), h.o.trans o (h.nb.fresh (Nat.le_refl _)), h.vk.took h.nb.nd _⟩, o⟩
/-- a net is as it was where its blocks are -/
theorem NB.same {B : Nat} {w w' : World} {g bm n room : Nat} {Ls : List (Pr × Lane)} (h : NB B w g bm n room Ls) (o : w'.os = w.os ∧ w'.tape = w.tape ∧ w'.output = w.output) (hs : w.heap.size ≤ w'.heap.size) (hb : ∀ x ∈ g :: netS bm Ls, w'.heap[x]? = w.heap[x]?) : NB B w' g bm n room Ls :=
  h.only (S := (List.range w.heap.size).filter fun x => !decide (x ∈ g :: netS bm Ls)) ⟨o.1, o.2.1, o.2.2, hs, fun k hk hn => by
    refine hb k (Classical.byContradiction fun hc => hn (List.mem_filter.2 ⟨List.mem_range.2 hk, by simpa using hc⟩))⟩ (fun x hx hm => by
    have := (List.mem_filter.1 hm).2
    simp only [Bool.not_eq_true', decide_eq_false_iff_not] at this
    exact this hx)
theorem HX.keepT {B : Nat} {S : List Nat} {w1 w w' : World} {g bm n : Nat} {Ls : List (Pr × Lane)} {xb : Nat} (h : HX w1 w g bm n Ls xb) (k : KeepT B S w w') (hB : ∀ x ∈ g :: netS bm Ls, x < B ∨ x ∈ S) (hx : xb < B) (h1 : w1.heap.size ≤ B) : HX w1 w' g bm n Ls xb :=
  ⟨h.nb.same ⟨k.os, k.tape, k.output⟩ k.size (fun x hx => k.block x (h.nb.below x hx) (hB x hx)), k.blk h.x (.inl hx), h.off, h.o.keepT k h1, h.vk⟩
theorem HX.only {S : List Nat} {w1 w w' : World} {g bm n : Nat} {Ls : List (Pr × Lane)} {xb : Nat} (h : HX w1 w g bm n Ls xb) (o : Only S w w') (hS : ∀ x ∈ g :: netS bm Ls, x ∉ S) (hx : xb ∉ S) (h1 : ∀ x ∈ S, w1.heap.size ≤ x) : HX w1 w' g bm n Ls xb :=
  ⟨h.nb.only o hS, o.blk h.x hx, h.off, h.o.trans o (fun x hx => .inr (h1 x hx)), h.vk⟩
end Go.Proofs.Ytlhmhpopppfpkaa
