/- swap. -/
import Derived.Test.YtodiemichniehaaHp
import Derived.BigRegion
namespace Go.Proofs.Ytodiemichniehaa
open Go.RowKit Go.Kx Go.Maps
set_option maxRecDepth 20000

theorem own_set1 {W : World} {base n cap b j : Nat} {t : TypeId} {xs : List Value} {u : Value} (h : W.ownsRow base t 2 (.slice (some ⟨b, 0, none⟩) n cap) n xs) :
    (W.setCell ⟨b, j, none⟩ u).ownsRow base t 2 (.slice (some ⟨b, 0, none⟩) n cap) n (xs.set j u) := by
  rcases h.2 with ⟨h1, h2⟩ | ⟨g, cap', cur, h1, hb, hg, hnc, hcm, hcs, hcur⟩
  · cases h1
  · injection h1 with h1 _ h3
    injection h1 with h1
    injection h1 with h1 _ _
    subst h1
    subst h3
    refine ⟨by rw [List.length_set]; exact h.1, .inr ⟨b, cap, cur.setIfInBounds j u, rfl, hb, Blk.set_ (w := W) (cs := cur) (t := t) hg _ _, hnc, hcm, by simp [hcs], ?_⟩⟩
    rw [← hcur]
    simp [List.take_set]
theorem own_set2 {W : World} {base cap b i : Nat} {t : TypeId} {L : List Ent} {x : Ent} {n : Nat} (hn : L.length = n) (h : W.ownsRow base t 2 (.slice (some ⟨b, 0, none⟩) n cap) n (flat2 L)) (hi : i < n) :
    ((W.setCell ⟨b, i * 2, none⟩ (.int .i64 x.1)).setCell ⟨b, i * 2 + 1, none⟩ (.int .i64 x.2)).ownsRow base t 2 (.slice (some ⟨b, 0, none⟩) n cap) n (flat2 (L.set i x)) := by
  rw [flat2_set, if_pos (by omega)]
  exact own_set1 (own_set1 h)
theorem swp_ok {L : List Ent} {i j : Nat} (hi : i < L.length) (hj : j < L.length) (h : ∀ e ∈ L, I64 e.1 ∧ I64 e.2) : ∀ e ∈ swp L i j, I64 e.1 ∧ I64 e.2 := fun e he => h e ((swp_perm hi hj).mem_iff.1 he)
theorem swp_self {L : List Ent} {i : Nat} : swp L i i = L := by
  unfold swp gt_
  rw [List.set_set]
  by_cases h : i < L.length
  · rw [List.getElem?_eq_getElem h]; exact List.set_getElem_self h
  · exact List.set_eq_of_length_le (by omega)

theorem _root_.Go.Kx.AtIs.put_size1 {D : DataW Unit} {L : List Ent} (h : AtIs D L) (_ : (L.map (·.1)).Nodup) {i j : Nat} {a b : Ent} (_ : L[i]? = some a) (hj : L[j]? = some b) : Maps.size (D.put (ik b.1) (iv i)) = L.length := by
  rw [size_put h.tidy, h.has_, hasM_at hj, if_pos rfl, h.size_]

theorem swap_ne {B : Nat} {w : World} {g : Nat} {M : Option Nat} {L : List Ent} {p c : Nat} (hH : HB B w g M L (some ⟨p, 0, none⟩) c) {i j : Nat} {a b : Ent} (hi : L[i]? = some a) (hj : L[j]? = some b) (hn : i ≠ j) (hl : L.length < maxLen) :
    Calls Try.prog 37 #[.pointer (some ⟨g, 0, none⟩), .int .i64 i, .int .i64 j] w fun e w' => e = .returned (.tuple #[]) ∧ HB B w' g M (swp L i j) (some ⟨p, 0, none⟩) c ∧ Only (p :: M.toList) w w' := by
  have hil : i < L.length := (List.getElem?_eq_some_iff.1 hi).1
  have hjl : j < L.length := (List.getElem?_eq_some_iff.1 hj).1
  have hl' : L.length ≤ 9223372036854775807 := by unfold maxLen at hl; omega
  obtain ⟨g0, g1, g2, gl⟩ := hH.blk.facts3
  obtain ⟨p', hp', pl, pb, ci0, ci1⟩ := own_cell rfl hH.own hi
  injection hp' with hp'; injection hp' with hp'; subst hp'
  obtain ⟨p', hp', -, -, cj0, cj1⟩ := own_cell rfl hH.own hj
  injection hp' with hp'; injection hp' with hp'; subst hp'
  have hgp : g ≠ p := fun e => owns_ne hH.own hH.blk (by decide) (by rw [e]; rfl)
  have fz : ∀ k, w.frozen? ⟨p, k, none⟩ = false := by
    rcases hH.own.2 with ⟨h1, _⟩ | ⟨q, _, cur, h1, _, hq, _⟩
    · cases h1
    · injection h1 with h1; injection h1 with h1; injection h1 with h1; subst h1
      intro k
      exact Blk.frozen (w := w) (cs := cur) (t := 40) hq k
  have fi0 := fz (i * 2)
  have fi1 := fz (i * 2 + 1)
  have fj0 := fz (j * 2)
  have fj1 := fz (j * 2 + 1)
  have i0 : (0 : Int) ≤ (i : Int) := by omega
  have j0 : (0 : Int) ≤ (j : Int) := by omega
  have i1 : (i : Int) < (L.length : Int) := by omega
  have j1 : (j : Int) < (L.length : Int) := by omega
  have ha : I64 a.1 := (hH.okAt hi).1
  have hb : I64 b.1 := (hH.okAt hj).1
  have hgs : gt_ L i = a := by unfold gt_; rw [hi]; rfl
  have hgt : gt_ L j = b := by unfold gt_; rw [hj]; rfl
  have own1 : ((((w.setCell ⟨p, i * 2, none⟩ (.int .i64 b.1)).setCell ⟨p, i * 2 + 1, none⟩ (.int .i64 b.2)).setCell ⟨p, j * 2, none⟩ (.int .i64 a.1)).setCell ⟨p, j * 2 + 1, none⟩ (.int .i64 a.2)).drew.ownsRow B 40 2 (.slice (some ⟨p, 0, none⟩) L.length c) L.length (flat2 (swp L i j)) := by
    have h1 := own_set2 (x := b) rfl hH.own hil
    have h2 := own_set2 (x := a) (i := j) (by simp) h1 hjl
    have e : swp L i j = (L.set i b).set j a := by unfold swp; rw [hgs, hgt]
    rw [e]
    exact ownsRow_only (Only.refl [] _).drew h2 (fun _ _ => by simp)
  have o1 : Only [p] w ((((w.setCell ⟨p, i * 2, none⟩ (.int .i64 b.1)).setCell ⟨p, i * 2 + 1, none⟩ (.int .i64 b.2)).setCell ⟨p, j * 2, none⟩ (.int .i64 a.1)).setCell ⟨p, j * 2 + 1, none⟩ (.int .i64 a.2)).drew :=
    (((((Only.refl [p] w).setCell (.inl (by simp)) _).setCell (.inl (by simp)) _).setCell (.inl (by simp)) _).setCell (.inl (by simp)) _).drew
  have nd := swp_nd hH.nd hil hjl
  have ok := swp_ok hil hjl hH.ok
  have hsl : (swp L i j).length = L.length := swp_length _ _ _
  have hsi : (swp L i j)[i]? = some b := by rw [swp_at hi hj]; rw [if_neg hn, if_pos rfl]
  have hsj : (swp L i j)[j]? = some a := by rw [swp_at hi hj, if_pos rfl]
  have HH := Lib.hid hH
  have HOW := Lib.hid own1
  have HO := Lib.hid o1
  clear fz hH own1 o1
  go_enter Try.func37, Try.ntmps37
  go_wp2_with (fail)
  go_region
  generalize hW1 : ((((w.setCell ⟨p, i * 2, none⟩ (.int .i64 b.1)).setCell ⟨p, i * 2 + 1, none⟩ (.int .i64 b.2)).setCell ⟨p, j * 2, none⟩ (.int .i64 a.1)).setCell ⟨p, j * 2 + 1, none⟩ (.int .i64 a.2)).drew = W1 at HOW HO ⊢
  clear g0 g1 g2 gl pl ci0 ci1 cj0 cj1 fi0 fi1 fj0 fj1 hW1
  have hb1 : Blk W1 g 63 #[FV, .slice (some ⟨p, 0, none⟩) L.length c, .map M] := HO.out.blk HH.out.blk (by simpa using hgp)
  obtain ⟨g0, g1, g2, gl⟩ := hb1.facts3
  cases hM : M with
  | none =>
    subst hM
    have hne : ∀ W, (binOp .neq 61 (.map none) (.map none)).run Try.prog W = .ok (.bool false) W := fun W => by kernel_rfl
    go_wp2_with (fail)
    go_end0
    exact ⟨rfl, ⟨by rw [hsl]; exact hb1, by rw [hsl]; exact HOW.out, ok, (fun _ h => by cases h), nd, HH.out.base⟩, HO.out.mono (fun _ h => .inl (by simpa using h))⟩
  | some bm =>
    subst hM
    obtain ⟨D, hD, hAt⟩ := HH.out.map bm rfl
    have hmg : bm ≠ g := (HH.out.map bm rfl).ne HH.out.blk
    have hmp : bm ≠ p := fun e => (HH.out.map bm rfl).ne_own HH.out.own (by rw [e]; rfl)
    have hown := ownsMap_only hD HO.out (by simpa using hmp)
    obtain ⟨p', hp', pl, pb, ci0, ci1⟩ := own_cell (by rw [hsl]) HOW.out hsi
    injection hp' with hp'; injection hp' with hp'; subst hp'
    obtain ⟨p', hp', -, -, cj0, cj1⟩ := own_cell (by rw [hsl]) HOW.out hsj
    injection hp' with hp'; injection hp' with hp'; subst hp'
    have HD := Lib.hid hD
    have HAt := Lib.hid hAt
    have HB1 := Lib.hid hb1
    clear hD hb1 hAt
    have hne : ∀ W, (binOp .neq 61 (.map (some bm)) (.map none)).run Try.prog W = .ok (.bool true) W := fun W => by kernel_rfl
    go_wp2_with (fail)
    go_still_tail 13, (by kernel_rfl)
    change wpList _ _ _ _ _ W1.drew
    go_wp2_with (at_mapUpdate; refine wpList_mapUpdate_own _ rfl _ _ _ 61 rfl 3 3 law3 Try.underlying61 _ bm L.length D rfl hown.drew hl _ _ (ik b.1) rfl rfl (key_of hb) (iv i) [] (val_of (by omega)) ?_; intro W2 hown2 hgrow2)
    have o2 : Only [bm] W1 W2 := (Only.refl [bm] W1).drew.trans (Only.of_grownBy hgrow2) (fun _ h => .inl (by simpa using h))
    have hb2 := o2.blk HB1.out (by simpa using Ne.symm hmg)
    have own2 : W2.ownsRow B 40 2 (.slice (some ⟨p, 0, none⟩) L.length c) L.length (flat2 (swp L i j)) := ownsRow_only o2 HOW.out (fun b hb => by simp [Value.ownBlock] at hb; subst hb; simpa using Ne.symm hmp)
    have HO2 := Lib.hid ((HO.out.mono (S' := [p, bm]) (fun _ h => .inl (by simp at h; simp [h]))).trans o2 (fun _ h => .inl (by simp at h; simp [h])))
    clear g0 g1 g2 gl pl ci0 ci1 cj0 cj1 hgrow2 hown o2
    obtain ⟨g0, g1, g2, gl⟩ := hb2.facts3
    obtain ⟨p', hp', pl, -, ci0, ci1⟩ := own_cell (by rw [hsl]) own2 hsi
    injection hp' with hp'; injection hp' with hp'; subst hp'
    obtain ⟨p', hp', -, -, cj0, cj1⟩ := own_cell (by rw [hsl]) own2 hsj
    injection hp' with hp'; injection hp' with hp'; subst hp'
    have HB2 := Lib.hid hb2
    have HOW2 := Lib.hid own2
    have hsz := (HAt.out.put_size1 HH.out.nd hi hj)
    have hown3 := hown2.norm (n' := L.length) (by rw [hsz]; omega)
    clear hb2 own2 hown2 hsz
    go_wp2_with (fail)
    go_still_tail 13, (by kernel_rfl)
    change wpList _ _ _ _ _ W2.drew
    go_wp2_with (at_mapUpdate; refine wpList_mapUpdate_own _ rfl _ _ _ 61 rfl 3 3 law3 Try.underlying61 _ bm L.length _ rfl hown3.drew hl _ _ (ik a.1) rfl rfl (key_of ha) (iv j) [] (val_of (by omega)) ?_; intro W3 hown4 hgrow3)
    go_wp2_with (fail)
    go_end0
    have o3 : Only [bm] W2 W3 := (Only.refl [bm] W2).drew.trans (Only.of_grownBy hgrow3) (fun _ h => .inl (by simpa using h))
    have hat : AtIs ((D.put (ik b.1) (iv i)).put (ik a.1) (iv j)) (swp L i j) := HAt.out.swap HH.out.nd hi hj
    refine ⟨rfl, ⟨by rw [hsl]; exact o3.blk HB2.out (by simpa using Ne.symm hmg), by rw [hsl]; exact ownsRow_only o3 HOW2.out (fun b hb => by simp [Value.ownBlock] at hb; subst hb; simpa using Ne.symm hmp), ok, fun bm' e => ?_, nd, HH.out.base⟩, HO2.out.trans o3 (by simp)⟩
    cases e
    exact ⟨_, hown4.norm (by rw [hat.size_]; exact Nat.le_refl _), hat⟩
theorem swap_eq {B : Nat} {w : World} {g : Nat} {M : Option Nat} {L : List Ent} {p c : Nat} (hH : HB B w g M L (some ⟨p, 0, none⟩) c) {i j : Nat} {a b : Ent} (hi : L[i]? = some a) (hj : L[j]? = some b) (hn : i = j) (hl : L.length < maxLen) :
    Calls Try.prog 37 #[.pointer (some ⟨g, 0, none⟩), .int .i64 i, .int .i64 j] w fun e w' => e = .returned (.tuple #[]) ∧ HB B w' g M (swp L i j) (some ⟨p, 0, none⟩) c ∧ Only (p :: M.toList) w w' := by
  have hil : i < L.length := (List.getElem?_eq_some_iff.1 hi).1
  have hjl : j < L.length := (List.getElem?_eq_some_iff.1 hj).1
  have hl' : L.length ≤ 9223372036854775807 := by unfold maxLen at hl; omega
  obtain ⟨g0, g1, g2, gl⟩ := hH.blk.facts3
  obtain ⟨p', hp', pl, pb, ci0, ci1⟩ := own_cell rfl hH.own hi
  injection hp' with hp'; injection hp' with hp'; subst hp'
  obtain ⟨p', hp', -, -, cj0, cj1⟩ := own_cell rfl hH.own hj
  injection hp' with hp'; injection hp' with hp'; subst hp'
  have hgp : g ≠ p := fun e => owns_ne hH.own hH.blk (by decide) (by rw [e]; rfl)
  have fz : ∀ k, w.frozen? ⟨p, k, none⟩ = false := by
    rcases hH.own.2 with ⟨h1, _⟩ | ⟨q, _, cur, h1, _, hq, _⟩
    · cases h1
    · injection h1 with h1; injection h1 with h1; injection h1 with h1; subst h1
      intro k
      exact Blk.frozen (w := w) (cs := cur) (t := 40) hq k
  have fi0 := fz (i * 2)
  have fi1 := fz (i * 2 + 1)
  have fj0 := fz (j * 2)
  have fj1 := fz (j * 2 + 1)
  have i0 : (0 : Int) ≤ (i : Int) := by omega
  have j0 : (0 : Int) ≤ (j : Int) := by omega
  have i1 : (i : Int) < (L.length : Int) := by omega
  have j1 : (j : Int) < (L.length : Int) := by omega
  have ha : I64 a.1 := (hH.okAt hi).1
  have hb : I64 b.1 := (hH.okAt hj).1
  have hgs : gt_ L i = a := by unfold gt_; rw [hi]; rfl
  have hgt : gt_ L j = b := by unfold gt_; rw [hj]; rfl
  have own1 : ((((w.setCell ⟨p, i * 2, none⟩ (.int .i64 b.1)).setCell ⟨p, i * 2 + 1, none⟩ (.int .i64 b.2)).setCell ⟨p, j * 2, none⟩ (.int .i64 a.1)).setCell ⟨p, j * 2 + 1, none⟩ (.int .i64 a.2)).drew.ownsRow B 40 2 (.slice (some ⟨p, 0, none⟩) L.length c) L.length (flat2 (swp L i j)) := by
    have h1 := own_set2 (x := b) rfl hH.own hil
    have h2 := own_set2 (x := a) (i := j) (by simp) h1 hjl
    have e : swp L i j = (L.set i b).set j a := by unfold swp; rw [hgs, hgt]
    rw [e]
    exact ownsRow_only (Only.refl [] _).drew h2 (fun _ _ => by simp)
  have o1 : Only [p] w ((((w.setCell ⟨p, i * 2, none⟩ (.int .i64 b.1)).setCell ⟨p, i * 2 + 1, none⟩ (.int .i64 b.2)).setCell ⟨p, j * 2, none⟩ (.int .i64 a.1)).setCell ⟨p, j * 2 + 1, none⟩ (.int .i64 a.2)).drew :=
    (((((Only.refl [p] w).setCell (.inl (by simp)) _).setCell (.inl (by simp)) _).setCell (.inl (by simp)) _).setCell (.inl (by simp)) _).drew
  have nd := swp_nd hH.nd hil hjl
  have ok := swp_ok hil hjl hH.ok
  have hsl : (swp L i j).length = L.length := swp_length _ _ _
  have hsi : (swp L i j)[i]? = some b := by rw [swp_at hi hj]; subst hn; rw [hi] at hj; simpa using hj
  have hsj : (swp L i j)[j]? = some a := by rw [swp_at hi hj, if_pos rfl]
  have HH := Lib.hid hH
  have HOW := Lib.hid own1
  have HO := Lib.hid o1
  clear fz hH own1 o1
  subst hn
  rw [hi] at hj
  injection hj with hj
  subst hj
  go_enter Try.func37, Try.ntmps37
  go_wp2_with (fail)
  go_region
  generalize hW1 : ((((w.setCell ⟨p, i * 2, none⟩ (.int .i64 a.1)).setCell ⟨p, i * 2 + 1, none⟩ (.int .i64 a.2)).setCell ⟨p, i * 2, none⟩ (.int .i64 a.1)).setCell ⟨p, i * 2 + 1, none⟩ (.int .i64 a.2)).drew = W1 at HOW HO ⊢
  clear g0 g1 g2 gl pl ci0 ci1 cj0 cj1 fi0 fi1 fj0 fj1 hW1
  have hb1 : Blk W1 g 63 #[FV, .slice (some ⟨p, 0, none⟩) L.length c, .map M] := HO.out.blk HH.out.blk (by simpa using hgp)
  obtain ⟨g0, g1, g2, gl⟩ := hb1.facts3
  cases hM : M with
  | none =>
    subst hM
    have hne : ∀ W, (binOp .neq 61 (.map none) (.map none)).run Try.prog W = .ok (.bool false) W := fun W => by kernel_rfl
    go_wp2_with (fail)
    go_end0
    exact ⟨rfl, ⟨by rw [hsl]; exact hb1, by rw [hsl]; exact HOW.out, ok, (fun _ h => by cases h), nd, HH.out.base⟩, HO.out.mono (fun _ h => .inl (by simpa using h))⟩
  | some bm =>
    subst hM
    obtain ⟨D, hD, hAt⟩ := HH.out.map bm rfl
    have hmg : bm ≠ g := (HH.out.map bm rfl).ne HH.out.blk
    have hmp : bm ≠ p := fun e => (HH.out.map bm rfl).ne_own HH.out.own (by rw [e]; rfl)
    have hown := ownsMap_only hD HO.out (by simpa using hmp)
    obtain ⟨p', hp', pl, pb, ci0, ci1⟩ := own_cell (by rw [hsl]) HOW.out hsi
    injection hp' with hp'; injection hp' with hp'; subst hp'
    obtain ⟨p', hp', -, -, cj0, cj1⟩ := own_cell (by rw [hsl]) HOW.out hsj
    injection hp' with hp'; injection hp' with hp'; subst hp'
    have HD := Lib.hid hD
    have HAt := Lib.hid hAt
    have HB1 := Lib.hid hb1
    clear hD hb1 hAt
    have hne : ∀ W, (binOp .neq 61 (.map (some bm)) (.map none)).run Try.prog W = .ok (.bool true) W := fun W => by kernel_rfl
    go_wp2_with (fail)
    go_still_tail 13, (by kernel_rfl)
    change wpList _ _ _ _ _ W1.drew
    go_wp2_with (at_mapUpdate; refine wpList_mapUpdate_own _ rfl _ _ _ 61 rfl 3 3 law3 Try.underlying61 _ bm L.length D rfl hown.drew hl _ _ (ik a.1) rfl rfl (key_of ha) (iv i) [] (val_of (by omega)) ?_; intro W2 hown2 hgrow2)
    have o2 : Only [bm] W1 W2 := (Only.refl [bm] W1).drew.trans (Only.of_grownBy hgrow2) (fun _ h => .inl (by simpa using h))
    have hb2 := o2.blk HB1.out (by simpa using Ne.symm hmg)
    have own2 : W2.ownsRow B 40 2 (.slice (some ⟨p, 0, none⟩) L.length c) L.length (flat2 (swp L i i)) := ownsRow_only o2 HOW.out (fun b hb => by simp [Value.ownBlock] at hb; subst hb; simpa using Ne.symm hmp)
    have HO2 := Lib.hid ((HO.out.mono (S' := [p, bm]) (fun _ h => .inl (by simp at h; simp [h]))).trans o2 (fun _ h => .inl (by simp at h; simp [h])))
    clear g0 g1 g2 gl pl ci0 ci1 cj0 cj1 hgrow2 hown o2
    obtain ⟨g0, g1, g2, gl⟩ := hb2.facts3
    obtain ⟨p', hp', pl, -, ci0, ci1⟩ := own_cell (by rw [hsl]) own2 hsi
    injection hp' with hp'; injection hp' with hp'; subst hp'
    obtain ⟨p', hp', -, -, cj0, cj1⟩ := own_cell (by rw [hsl]) own2 hsj
    injection hp' with hp'; injection hp' with hp'; subst hp'
    have HB2 := Lib.hid hb2
    have HOW2 := Lib.hid own2
    have hsz := (HAt.out.put_size1 HH.out.nd hi hi)
    have hown3 := hown2.norm (n' := L.length) (by rw [hsz]; omega)
    clear hb2 own2 hown2 hsz
    go_wp2_with (fail)
    go_still_tail 13, (by kernel_rfl)
    change wpList _ _ _ _ _ W2.drew
    go_wp2_with (at_mapUpdate; refine wpList_mapUpdate_own _ rfl _ _ _ 61 rfl 3 3 law3 Try.underlying61 _ bm L.length _ rfl hown3.drew hl _ _ (ik a.1) rfl rfl (key_of ha) (iv i) [] (val_of (by omega)) ?_; intro W3 hown4 hgrow3)
    go_wp2_with (fail)
    go_end0
    have o3 : Only [bm] W2 W3 := (Only.refl [bm] W2).drew.trans (Only.of_grownBy hgrow3) (fun _ h => .inl (by simpa using h))
    have hat : AtIs ((D.put (ik a.1) (iv i)).put (ik a.1) (iv i)) (swp L i i) := HAt.out.swap HH.out.nd hi hi
    refine ⟨rfl, ⟨by rw [hsl]; exact o3.blk HB2.out (by simpa using Ne.symm hmg), by rw [hsl]; exact ownsRow_only o3 HOW2.out (fun b hb => by simp [Value.ownBlock] at hb; subst hb; simpa using Ne.symm hmp), ok, fun bm' e => ?_, nd, HH.out.base⟩, HO2.out.trans o3 (by simp)⟩
    cases e
    exact ⟨_, hown4.norm (by rw [hat.size_]; exact Nat.le_refl _), hat⟩
theorem swap_any {B : Nat} {w : World} {g : Nat} {M : Option Nat} {L : List Ent} {p c : Nat} (hH : HB B w g M L (some ⟨p, 0, none⟩) c) {i j : Nat} (hi : i < L.length) (hj : j < L.length) (hl : L.length ≤ 1048576) :
    Calls Try.prog 37 #[.pointer (some ⟨g, 0, none⟩), .int .i64 i, .int .i64 j] w fun e w' => e = .returned (.tuple #[]) ∧ HB B w' g M (swp L i j) (some ⟨p, 0, none⟩) c ∧ Only (p :: M.toList) w w' := by
  by_cases h : i = j
  · exact swap_eq hH (List.getElem?_eq_getElem hi) (List.getElem?_eq_getElem hj) h (by unfold maxLen; omega)
  · exact swap_ne hH (List.getElem?_eq_getElem hi) (List.getElem?_eq_getElem hj) h (by unfold maxLen; omega)
end Go.Proofs.Ytodiemichniehaa
