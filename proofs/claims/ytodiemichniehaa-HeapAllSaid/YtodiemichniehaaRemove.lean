/- remove. -/
import Derived.Test.YtodiemichniehaaSettle
namespace Go.Proofs.Ytodiemichniehaa
open Go.RowKit Go.Kx Go.Maps
set_option maxRecDepth 20000

theorem own_cut {W : World} {base cap b n m : Nat} {t : TypeId} {xs : List Value} (h : W.ownsRow base t 2 (.slice (some ⟨b, 0, none⟩) n cap) n xs) (hm : m ≤ n) :
    W.ownsRow base t 2 (.slice (some ⟨b, 0, none⟩) m cap) m (xs.take (m * 2)) := by
  rcases h.2 with ⟨h1, h2⟩ | ⟨g, cap', cur, h1, hb, hg, hnc, hcm, hcs, hcur⟩
  · cases h1
  · injection h1 with h1 _ h3
    injection h1 with h1
    injection h1 with h1 _ _
    subst h1
    subst h3
    refine ⟨?_, .inr ⟨b, cap, cur, rfl, hb, hg, by omega, hcm, hcs, ?_⟩⟩
    · rw [List.length_take, h.1]; omega
    · rw [← hcur, List.take_take, Nat.min_eq_left (by omega)]
theorem own_cap {W : World} {base cap b n : Nat} {t : TypeId} {xs : List Value} (h : W.ownsRow base t 2 (.slice (some ⟨b, 0, none⟩) n cap) n xs) : n ≤ cap ∧ cap ≤ maxLen := by
  rcases h.2 with ⟨h1, h2⟩ | ⟨g, cap', cur, h1, hb, hg, hnc, hcm, hcs, hcur⟩
  · cases h1
  · injection h1 with h1 _ h3
    subst h3
    exact ⟨hnc, hcm⟩
theorem own_blk {W : World} {base cap b n : Nat} {t : TypeId} {xs : List Value} (h : W.ownsRow base t 2 (.slice (some ⟨b, 0, none⟩) n cap) n xs) : ∃ cur, Blk W b t cur ∧ cur.size = cap * 2 := by
  rcases h.2 with ⟨h1, h2⟩ | ⟨g, cap', cur, h1, hb, hg, hnc, hcm, hcs, hcur⟩
  · cases h1
  · injection h1 with h1 _ h3
    injection h1 with h1
    injection h1 with h1 _ _
    subst h1
    subst h3
    exact ⟨cur, hg, hcs⟩
theorem settle_some {B : Nat} {w : World} {g : Nat} {M : Option Nat} {L : List Ent} {p c : Nat} (hH : HB B w g M L (some ⟨p, 0, none⟩) c) {i : Nat} (hi : i < L.length) (hl : L.length ≤ 1048576) (hR : Rises L i) :
    Calls Try.prog 29 #[.pointer (some ⟨g, 0, none⟩), .int .i64 i] w fun e w' => e = .returned (.tuple #[]) ∧ ∃ L', HB B w' g M L' (some ⟨p, 0, none⟩) c ∧ L'.Perm L ∧ Heaped L' ∧ Only (p :: M.toList) w w' :=
  (settle_any hH hi hl hR).mono fun e w' ⟨he, ⟨L', h1, h2, h3⟩, o⟩ => ⟨he, L', h1, h2, h3, o⟩

theorem cut_heap {B : Nat} {W : World} {g : Nat} {M : Option Nat} {L1 : List Ent} {p c n : Nat} (hb : Blk W g 63 #[FV, .slice (some ⟨p, 0, none⟩) (n + 1) c, .map M]) (hw : W.ownsRow B 40 2 (.slice (some ⟨p, 0, none⟩) (n + 1) c) (n + 1) (flat2 L1)) (hsl : L1.length = n + 1)
    (hm : ∀ bm, M = some bm → MP W bm (L1.take n)) (hok : ∀ e ∈ L1, I64 e.1 ∧ I64 e.2) (hnd : (L1.map (·.1)).Nodup) (hbase : B ≤ g) :
    HB B (((W.setCell ⟨p, n * 2, none⟩ (.int .i64 0)).setCell ⟨p, n * 2 + 1, none⟩ (.int .i64 0)).setCell ⟨g, 1, none⟩ (.slice (some ⟨p, 0, none⟩) n c)) g M (L1.take n) (some ⟨p, 0, none⟩) c ∧
      Only [g, p] W (((W.setCell ⟨p, n * 2, none⟩ (.int .i64 0)).setCell ⟨p, n * 2 + 1, none⟩ (.int .i64 0)).setCell ⟨g, 1, none⟩ (.slice (some ⟨p, 0, none⟩) n c)) := by
  have hgp : g ≠ p := fun e => owns_ne hw hb (by decide) (by rw [e]; rfl)
  have hl : (L1.take n).length = n := by rw [List.length_take]; omega
  have o : Only [g, p] W (((W.setCell ⟨p, n * 2, none⟩ (.int .i64 0)).setCell ⟨p, n * 2 + 1, none⟩ (.int .i64 0)).setCell ⟨g, 1, none⟩ (.slice (some ⟨p, 0, none⟩) n c)) :=
    (((Only.refl [g, p] W).setCell (.inl (by simp)) _).setCell (.inl (by simp)) _).setCell (.inl (by simp)) _
  refine ⟨⟨?_, ?_, fun e he => hok e (List.mem_of_mem_take he), fun bm e => ?_, ?_, hbase⟩, o⟩
  · rw [hl]
    have h2 := (((hb.far (p := ⟨p, n * 2, none⟩) hgp (.int .i64 0)).far (p := ⟨p, n * 2 + 1, none⟩) hgp (.int .i64 0)).set_ 1 (.slice (some ⟨p, 0, none⟩) n c))
    exact h2
  · rw [hl]
    have h1 := own_cut (m := n) (own_set1 (j := n * 2 + 1) (u := .int .i64 0) (own_set1 (j := n * 2) (u := .int .i64 0) hw)) (by omega)
    have e : (((flat2 L1).set (n * 2) (.int .i64 0)).set (n * 2 + 1) (.int .i64 0)).take (n * 2) = flat2 (L1.take n) := by
      rw [← flat2_take, List.take_set_of_le (by omega), List.take_set_of_le (by omega)]
    rw [e] at h1
    exact ownsRow_only (only_setCell _ ⟨g, 1, none⟩ _) h1 (fun b hb => by simp [Value.ownBlock] at hb; subst hb; simpa using Ne.symm hgp)
  · exact (hm bm e).only o (by
      have h1 := (hm bm e).ne hb
      have h2 : bm ≠ p := fun k => (hm bm e).ne_own hw (by rw [k]; rfl)
      simp [h1, h2])
  · exact hnd.sublist ((List.take_sublist _ _).map _)

set_option maxHeartbeats 4000000 in
theorem remove_any {B : Nat} {w : World} {g : Nat} {M : Option Nat} {L : List Ent} {p c : Nat} (hH : HB B w g M L (some ⟨p, 0, none⟩) c) (hHp : Heaped L) {i : Nat} (hi : i < L.length) (hl : L.length ≤ 1048576) :
    Calls Try.prog 30 #[.pointer (some ⟨g, 0, none⟩), .int .i64 i] w fun e w' => e = .returned (.tuple #[]) ∧ ∃ L', HB B w' g M L' (some ⟨p, 0, none⟩) c ∧ L'.Perm (L.eraseIdx i) ∧ Heaped L' ∧ Only (g :: p :: M.toList) w w' := by
  obtain ⟨n, hn⟩ : ∃ n, L.length = n + 1 := ⟨L.length - 1, by omega⟩
  have hpe := eraseAt_perm hi
  have hri := eraseAt_rises hHp hi
  have hla := eraseAt_last hHp hi
  have hea : eraseAt L i = (swp L i n).take n := by unfold eraseAt; rw [hn]; rfl
  rw [hea] at hpe hri hla
  have hin : i ≤ n := by omega
  have hb0 := hH.blk
  rw [hn] at hb0
  obtain ⟨g0, g1, g2, gl⟩ := hb0.facts3
  have hsw := swap_any hH hi (show n < L.length by omega) hl
  have hsl : (swp L i n).length = n + 1 := by rw [swp_length]; exact hn
  have hse : (swp L i n)[n]? = some (gt_ L i) := by unfold swp; rw [List.getElem?_set_self (by simp; omega)]
  have hbs := hH.base
  have H1 := Lib.hid hpe
  have H2 := Lib.hid hri
  have H3 := Lib.hid hla
  clear hb0 hH hpe hri hla hea hi hHp
  go_enter Try.func30, Try.ntmps30
  go_wp2_with (fail)
  refine hsw.mono ?_
  clear hsw g0 g1 g2 gl
  rintro e w1 ⟨rfl, hH1, o1⟩
  generalize swp L i n = L1 at hH1 H1 H2 H3 hsl hse
  generalize gt_ L i = e0 at hse
  have hb1 := hH1.blk
  have hw1 := hH1.own
  rw [hsl] at hb1 hw1
  have hgp : g ≠ p := fun e => owns_ne hw1 hb1 (by decide) (by rw [e]; rfl)
  have ok0 : I64 e0.1 := (hH1.okAt hse).1
  have hcap := own_cap hw1
  have hcI : (n : Int) ≤ (c : Int) := by omega
  have hn0 : (0 : Int) ≤ (n : Int) := by omega
  have hn1 : (n : Int) < (n : Int) + 1 := by omega
  obtain ⟨g0, g1, g2, gl⟩ := hb1.facts3
  obtain ⟨p', hp', pl, -, c0, c1⟩ := own_cell hsl.symm hw1 hse
  injection hp' with hp'; injection hp' with hp'; subst hp'
  have fz : ∀ k, w1.frozen? ⟨p, k, none⟩ = false := by
    obtain ⟨cur, hq, _⟩ := own_blk hw1
    exact fun k => hq.frozen k
  have fp0 := fz (n * 2)
  have fp1 := fz (n * 2 + 1)
  have fg1 := hb1.frozen 1
  have HH1 := Lib.hid hH1
  have HB1 := Lib.hid hb1
  have HW1 := Lib.hid hw1
  have HO1 := Lib.hid o1
  clear hH1 hb1 hw1 o1 fz
  by_cases hil : i < n
  · have hiz : (i : Int) < (n : Int) := by omega
    cases hM : M with
    | none =>
      subst hM
      have hdr : ∀ W ty, (Builtin.delete_ #[61, 3] ty #[.map none, .int .i64 e0.1]).run Try.prog W = .ok (.tuple #[]) W := fun W ty => Maps.drop_nil law3 Try.underlying61 (key_of ok0) ty
      go_wp2_with (fail)
      go_still_tail 12, (by kernel_rfl)
      change wpList _ _ _ _ _ w1.drew
      go_wp2_with (fail)
      obtain ⟨hX, oX⟩ := cut_heap HB1.out HW1.out hsl (fun _ h => by cases h) HH1.out.ok HH1.out.nd hbs
      replace hX := hX.keep (Only.refl [] _).drew
      replace oX := oX.drew
      have OX := (HO1.out.mono (S' := [g, p]) (fun x h => .inl (by simp at h; simp [h]))).trans oX (fun x h => .inl (by simp at h; rcases h with h | h <;> simp [h]))
      refine (settle_some hX (i := i) (by rw [List.length_take]; omega) (by rw [List.length_take]; omega) H2.out).mono ?_
      rintro e w9 ⟨rfl, L9, h9, hp9, hh9, o9⟩
      go_wp2_with (fail)
      go_end0
      exact ⟨rfl, L9, h9, hp9.trans H1.out, hh9, OX.trans o9 (fun x h => .inl (by simp at h; first | simp [h] | (rcases h with h | h <;> simp [h])))⟩
    | some bm =>
      subst hM
      obtain ⟨D, hD, hAt⟩ := HH1.out.map bm rfl
      have hmg : bm ≠ g := (HH1.out.map bm rfl).ne HB1.out
      have hmp : bm ≠ p := fun e => (HH1.out.map bm rfl).ne_own HW1.out (by rw [e]; rfl)
      have HAt := Lib.hid (hAt.del_last HH1.out.nd hsl hse)
      clear hAt
      go_wp2_with (fail)
      go_still_tail 12, (by kernel_rfl)
      change wpList _ _ _ _ _ w1.drew
      go_wp2_with (at_delete; refine wpList_delete_own _ rfl _ _ 61 3 rfl 3 law3 Try.underlying61 _ bm L1.length D rfl hD.drew _ _ rfl (key_of ok0) ?_; intro W2 hown2 hturn2; have o2 : Only [bm] w1 W2 := (Only.refl [bm] w1).drew.trans (Only.of_grownBy hturn2.grown) (fun _ h => .inl (by simpa using h)); have hb2 := o2.blk HB1.out (by simpa using Ne.symm hmg); have hw2 : W2.ownsRow B 40 2 (.slice (some ⟨p, 0, none⟩) (n + 1) c) (n + 1) (flat2 L1) := ownsRow_only o2 HW1.out (fun b hb => by simp [Value.ownBlock] at hb; subst hb; simpa using Ne.symm hmp); have HM2 := Lib.hid (show ∀ bm', some bm = some bm' → MP W2 bm' (L1.take n) from fun bm' e => by injection e with e; subst e; exact ⟨_, hown2.norm (by rw [HAt.out.size_]; exact Nat.le_refl _), HAt.out⟩); have HO2 := Lib.hid ((HO1.out.mono (S' := [p, bm]) (fun _ h => .inl (by simpa using h))).trans o2 (fun _ h => .inl (by simp at h; simp [h]))); have fz2 : ∀ k, W2.frozen? ⟨p, k, none⟩ = false := (by obtain ⟨cur, hq, _⟩ := own_blk hw2; exact fun k => hq.frozen k); clear g0 g1 g2 gl c0 c1 fp0 fp1 fg1 pl hown2 hturn2 o2; have fp0 := fz2 (n * 2); have fp1 := fz2 (n * 2 + 1); have fg1 := hb2.frozen 1; obtain ⟨g0, g1, g2, gl⟩ := hb2.facts3; obtain ⟨p', hp', pl, -, c0, c1⟩ := own_cell hsl.symm hw2 hse; (injection hp' with hp'); (injection hp' with hp'); subst hp'; have HB2 := Lib.hid hb2; have HW2 := Lib.hid hw2; clear hb2 hw2 fz2)
      obtain ⟨hX, oX⟩ := cut_heap HB2.out HW2.out hsl HM2.out HH1.out.ok HH1.out.nd hbs
      have OX := (HO2.out.mono (S' := [g, p, bm]) (fun x h => .inl (by simp at h; simp [h]))).trans oX (fun x h => .inl (by simp at h; rcases h with h | h <;> simp [h]))
      refine (settle_some hX (i := i) (by rw [List.length_take]; omega) (by rw [List.length_take]; omega) H2.out).mono ?_
      rintro e w9 ⟨rfl, L9, h9, hp9, hh9, o9⟩
      go_wp2_with (fail)
      go_end0
      exact ⟨rfl, L9, h9, hp9.trans H1.out, hh9, OX.trans o9 (fun x h => .inl (by simp at h; first | simp [h] | (rcases h with h | h <;> simp [h])))⟩
  · have hiz : ¬ (i : Int) < (n : Int) := by omega
    have hiy : decide ((i : Int) < (n : Int)) = false := by simp; omega
    cases hM : M with
    | none =>
      subst hM
      have hdr : ∀ W ty, (Builtin.delete_ #[61, 3] ty #[.map none, .int .i64 e0.1]).run Try.prog W = .ok (.tuple #[]) W := fun W ty => Maps.drop_nil law3 Try.underlying61 (key_of ok0) ty
      go_wp2_with (fail)
      go_still_tail 12, (by kernel_rfl)
      change wpList _ _ _ _ _ w1.drew
      go_wp2_with (fail)
      obtain ⟨hX, oX⟩ := cut_heap HB1.out HW1.out hsl (fun _ h => by cases h) HH1.out.ok HH1.out.nd hbs
      replace hX := hX.keep (Only.refl [] _).drew
      replace oX := oX.drew
      have OX := (HO1.out.mono (S' := [g, p]) (fun x h => .inl (by simp at h; simp [h]))).trans oX (fun x h => .inl (by simp at h; rcases h with h | h <;> simp [h]))
      go_end0
      exact ⟨rfl, _, hX, H1.out, H3.out (by omega), OX⟩
    | some bm =>
      subst hM
      obtain ⟨D, hD, hAt⟩ := HH1.out.map bm rfl
      have hmg : bm ≠ g := (HH1.out.map bm rfl).ne HB1.out
      have hmp : bm ≠ p := fun e => (HH1.out.map bm rfl).ne_own HW1.out (by rw [e]; rfl)
      have HAt := Lib.hid (hAt.del_last HH1.out.nd hsl hse)
      clear hAt
      go_wp2_with (fail)
      go_still_tail 12, (by kernel_rfl)
      change wpList _ _ _ _ _ w1.drew
      go_wp2_with (at_delete; refine wpList_delete_own _ rfl _ _ 61 3 rfl 3 law3 Try.underlying61 _ bm L1.length D rfl hD.drew _ _ rfl (key_of ok0) ?_; intro W2 hown2 hturn2; have o2 : Only [bm] w1 W2 := (Only.refl [bm] w1).drew.trans (Only.of_grownBy hturn2.grown) (fun _ h => .inl (by simpa using h)); have hb2 := o2.blk HB1.out (by simpa using Ne.symm hmg); have hw2 : W2.ownsRow B 40 2 (.slice (some ⟨p, 0, none⟩) (n + 1) c) (n + 1) (flat2 L1) := ownsRow_only o2 HW1.out (fun b hb => by simp [Value.ownBlock] at hb; subst hb; simpa using Ne.symm hmp); have HM2 := Lib.hid (show ∀ bm', some bm = some bm' → MP W2 bm' (L1.take n) from fun bm' e => by injection e with e; subst e; exact ⟨_, hown2.norm (by rw [HAt.out.size_]; exact Nat.le_refl _), HAt.out⟩); have HO2 := Lib.hid ((HO1.out.mono (S' := [p, bm]) (fun _ h => .inl (by simpa using h))).trans o2 (fun _ h => .inl (by simp at h; simp [h]))); have fz2 : ∀ k, W2.frozen? ⟨p, k, none⟩ = false := (by obtain ⟨cur, hq, _⟩ := own_blk hw2; exact fun k => hq.frozen k); clear g0 g1 g2 gl c0 c1 fp0 fp1 fg1 pl hown2 hturn2 o2; have fp0 := fz2 (n * 2); have fp1 := fz2 (n * 2 + 1); have fg1 := hb2.frozen 1; obtain ⟨g0, g1, g2, gl⟩ := hb2.facts3; obtain ⟨p', hp', pl, -, c0, c1⟩ := own_cell hsl.symm hw2 hse; (injection hp' with hp'); (injection hp' with hp'); subst hp'; have HB2 := Lib.hid hb2; have HW2 := Lib.hid hw2; clear hb2 hw2 fz2)
      obtain ⟨hX, oX⟩ := cut_heap HB2.out HW2.out hsl HM2.out HH1.out.ok HH1.out.nd hbs
      have OX := (HO2.out.mono (S' := [g, p, bm]) (fun x h => .inl (by simp at h; simp [h]))).trans oX (fun x h => .inl (by simp at h; rcases h with h | h <;> simp [h]))
      go_end0
      exact ⟨rfl, _, hX, H1.out, H3.out (by omega), OX⟩
end Go.Proofs.Ytodiemichniehaa
