/- slices.Delete over a row of entries. -/
import Derived.Test.YtcggeogpanackaaThings
namespace Go.Proofs.Ytcggeogpanackaa
open Go.RowKit Go.Kx
set_option maxRecDepth 20000

theorem flat4_one (L : List En) : ∀ u ∈ flat4 L, u.oneCell' = true := by
  intro u hu
  obtain ⟨e, _, hu⟩ := List.mem_flatMap.1 hu
  simp [cells4] at hu
  rcases hu with rfl | rfl | rfl | rfl <;> rfl
theorem toList_drop_cur {cur : Array Value} {n : Nat} {xs : List Value} (h : cur.toList.take n = xs) (j : Nat) : (cur.toList.drop j).take (n - j) = xs.drop j := by
  rw [← h, List.drop_take]
theorem setRow_only (w : World) {g : Nat} {cur : Array Value} {t : TypeId} (h : w.heap[g]? = some (.cells cur t (0, 0))) (new : Array Value) : Only [g] w (w.setRow g new) := by
  refine ⟨rfl, rfl, rfl, ?_, fun k hk hn => setRow_other w g k new (fun e => hn (by simp [e]))⟩
  simp [World.setRow]
/-- clear(s) over elements of four cells -/
theorem run_clear4 {P : Program} (w : World) (t e ty : TypeId) (ht : P.underlying t = some (.slice e)) (hv : ∀ w, (zeroValue e).run P w = .ok (.agg #[.int .i64 0, .int .i64 0, .int .i64 0, .int .i64 0]) w) {g o n c : Nat} {cur : Array Value} {te : TypeId} (hn : 0 < n)
    (hg : w.heap[g]? = some (.cells cur te (0, 0))) (hsz : o + n * 4 ≤ cur.size) :
    ∃ zs : List Value, zs.length = n * 4 ∧ (Builtin.clear_ #[t] ty #[.slice (some ⟨g, o, none⟩) n c]).run P w = .ok (.tuple #[]) (w.setRow g (cur.toList.take o ++ zs ++ cur.toList.drop (o + n * 4)).toArray) := by
  have hz : (Builtin.zeroCells #[.int .i64 0, .int .i64 0, .int .i64 0, .int .i64 0] n).toList.length = n * 4 := by
    have := size_zeroCells #[.int .i64 0, .int .i64 0, .int .i64 0, .int .i64 0] n
    simpa using this
  have h1 : ∀ v ∈ (Builtin.zeroCells #[.int .i64 0, .int .i64 0, .int .i64 0, .int .i64 0] n).toList, v.oneCell' = true := by
    intro v hv
    simp [Builtin.zeroCells] at hv
    obtain ⟨a, _, rfl⟩ := hv
    have : a % 4 < 4 := Nat.mod_lt _ (by decide)
    match a % 4, this with
    | 0, _ => rfl
    | 1, _ => rfl
    | 2, _ => rfl
    | 3, _ => rfl
  have hst := run_storeCells_at P g o te _ 0 cur w hg (by rw [hz]; omega) h1
  simp only [Nat.add_zero] at hst
  refine ⟨_, hz, ?_⟩
  rw [hz] at hst
  obtain ⟨m, rfl⟩ : ∃ m, n = m + 1 := ⟨n - 1, by omega⟩
  simp [Builtin.clear_, run_underlying ht, hv, hst, Value.cells]

theorem delete_none {w : World} {A : Option Addr} {c n i : Nat} (hi : i ≤ n) (hc : n ≤ c) (h20 : n ≤ 1048576) :
    Calls Try.prog 38 #[.slice A n c, .int .i64 i, .int .i64 i] w fun e w' => e = .returned (.slice A n c) ∧ w' = w := by
  have hic : i ≤ c := by omega
  go_enter Try.func38, Try.ntmps38
  go_wp2_with (fail)
  all_goals (go_ret; exact ⟨rfl, rfl⟩)

theorem flat4_len (L : List En) (n : Nat) (h : L.length = n) : (flat4 L).length = n * 4 := by rw [flat4_length, h]
set_option maxHeartbeats 2000000 in
theorem delete_some {B : Nat} {w : World} {g c i j n : Nat} {L : List En} (hn : L.length = n) (hown : w.ownsRow B 71 4 (.slice (some ⟨g, 0, none⟩) n c) n (flat4 L)) (hij : i < j) (hj : j ≤ n) (h20 : n ≤ 1048576) :
    Calls Try.prog 38 #[.slice (some ⟨g, 0, none⟩) n c, .int .i64 i, .int .i64 j] w fun e w' => e = .returned (.slice (some ⟨g, 0, none⟩) (i + (n - j)) c) ∧ w'.ownsRow B 71 4 (.slice (some ⟨g, 0, none⟩) (i + (n - j)) c) (i + (n - j)) (flat4 (L.take i ++ L.drop j)) ∧ Only [g] w w' := by
  obtain ⟨cur, hB, hg, hnc, hcm, hcs, htk⟩ : ∃ cur, B ≤ g ∧ w.heap[g]? = some (.cells cur 71 (0, 0)) ∧ n ≤ c ∧ c ≤ maxLen ∧ cur.size = c * 4 ∧ cur.toList.take (n * 4) = flat4 L := by
    rcases hown.2 with ⟨h1, _⟩ | ⟨g', cap, cur, h1, hb, hg, h2, h3, h4, h5⟩
    · cases h1
    · injection h1 with h1 h6 h7
      injection h1 with h1
      injection h1 with h1 _ _
      subst h1
      subst h7
      exact ⟨cur, hb, hg, h2, h3, h4, h5⟩
  obtain ⟨news, hnews⟩ : ∃ news, news = flat4 (L.drop j) := ⟨_, rfl⟩
  have hlen : news.length = (n - j) * 4 := by rw [hnews]; exact flat4_len _ _ (by simp [hn])
  have hat : ∀ t u, news[t]? = some u → w.drew.cell? ⟨g, j * 4 + t, none⟩ = some u := by
    intro t u hu
    have ht : t < (n - j) * 4 := by rw [← hlen]; exact (List.getElem?_eq_some_iff.1 hu).1
    rw [hnews, ← flat4_drop, List.getElem?_drop, ← htk, List.getElem?_take_of_lt (by omega)] at hu
    show w.cell? _ = _
    rw [cell_of_row w g _ cur 71 (0, 0) hg]
    simpa using hu
  obtain ⟨AA, hAA, hsrc⟩ : ∃ AA : Addr, (if c = j then (some ⟨g, 0, none⟩ : Option Addr) else some ⟨g, j * 4, none⟩) = some AA ∧ (∀ t u, news[t]? = some u → w.drew.cell? (AA.add t) = some u) := by
    by_cases h : c = j
    · refine ⟨⟨g, 0, none⟩, by rw [if_pos h], fun t u hu => ?_⟩
      have h0 : news.length = 0 := by rw [hlen]; omega
      rw [List.length_eq_zero_iff.1 h0] at hu
      simp at hu
    · exact ⟨⟨g, j * 4, none⟩, by rw [if_neg h], fun t u hu => by rw [Addr.add_lit]; exact hat t u hu⟩
  have hone : ∀ u ∈ news, u.oneCell' = true := by rw [hnews]; exact flat4_one _
  obtain ⟨i71, hi71, _, hsz71, _⟩ := info_parts en_info
  have hrun := run_append_room (P := Try.prog) w.drew 64 64 71 i71 Try.underlying64 hi71 g i c cur hg AA (n - j) (c - j) news (by rw [hsz71]; exact hlen) hsrc hone (by omega) (by rw [hsz71, hlen, hcs]; omega)
  rw [hsz71, hlen] at hrun
  obtain ⟨cur1, hcur1⟩ : ∃ cur1, (cur.toList.take (i * 4) ++ news ++ cur.toList.drop (i * 4 + (n - j) * 4)).toArray = cur1 := ⟨_, rfl⟩
  rw [hcur1] at hrun
  obtain ⟨W1, hW1⟩ : ∃ W1, w.drew.setRow g cur1 = W1 := ⟨_, rfl⟩
  rw [hW1] at hrun
  have hg1 : W1.heap[g]? = some (.cells cur1 71 (0, 0)) := by rw [← hW1]; exact setRow_heap w.drew g cur _ 71 _ hg
  have ho1 : Only [g] w W1 := by rw [← hW1]; exact ((Only.refl [g] w).drew).trans (setRow_only w.drew (by exact hg) _) (fun _ h => .inl h)
  have hs1 : cur1.size = c * 4 := by
    rw [← hcur1]; simp only [List.size_toArray, List.length_append, List.length_take, List.length_drop, Array.length_toList, hlen, hcs]; omega
  obtain ⟨zs, hzs, hclr⟩ := run_clear4 (P := Try.prog) W1 64 71 0 Try.underlying64 Try.zeroValue71 (g := g) (o := (i + (n - j)) * 4) (n := n - (i + (n - j))) (c := c - (i + (n - j))) (by omega) hg1 (by rw [hs1]; omega)
  obtain ⟨cur2, hcur2⟩ : ∃ cur2, (cur1.toList.take ((i + (n - j)) * 4) ++ zs ++ cur1.toList.drop ((i + (n - j)) * 4 + (n - (i + (n - j))) * 4)).toArray = cur2 := ⟨_, rfl⟩
  rw [hcur2] at hclr
  obtain ⟨W2, hW2⟩ : ∃ W2, W1.setRow g cur2 = W2 := ⟨_, rfl⟩
  rw [hW2] at hclr
  have hg2 : W2.heap[g]? = some (.cells cur2 71 (0, 0)) := by rw [← hW2]; exact setRow_heap W1 g cur1 _ 71 _ hg1
  have ho2 : Only [g] w W2 := by rw [← hW2]; exact ho1.trans (setRow_only W1 hg1 _) (fun _ h => .inl h)
  have hs2 : cur2.size = c * 4 := by
    rw [← hcur2]; simp only [List.size_toArray, List.length_append, List.length_take, List.length_drop, Array.length_toList, hzs, hs1]; omega
  have htake : cur2.toList.take ((i + (n - j)) * 4) = flat4 (L.take i ++ L.drop j) := by
    rw [← hcur2]
    simp only [List.append_assoc]
    rw [List.take_append_of_le_length (by simp [hs1]; omega), List.take_take, Nat.min_self, ← hcur1]
    simp only []
    rw [List.take_append_of_le_length (by simp [hlen, hcs]; omega), List.take_of_length_le (by simp [hlen]; omega), flat4_append, ← hnews, ← flat4_take, ← htk, List.take_take, Nat.min_eq_left (by omega)]
  have hfin : W2.ownsRow B 71 4 (.slice (some ⟨g, 0, none⟩) (i + (n - j)) c) (i + (n - j)) (flat4 (L.take i ++ L.drop j)) :=
    ⟨flat4_len _ _ (by simp [hn]; omega), .inr ⟨g, c, cur2, rfl, hB, hg2, by omega, hcm, hs2, htake⟩⟩
  have HF := Lib.hid hfin
  have HO := Lib.hid ho2
  have HA := Lib.hid hAA
  have hcl : ∀ ty, (Builtin.clear_ #[64] ty #[.slice (some ⟨g, (i + (n - j)) * 4, none⟩) (n - (i + (n - j))) (c - (i + (n - j)))]).run Try.prog W1 = .ok (.tuple #[]) W2 := fun _ => hclr
  have hnlo : ¬ c = i + (n - j) := by omega
  have hlon : i + (n - j) ≤ n := by omega
  have hlonI : (i : Int) + ((n - j : Nat) : Int) ≤ (n : Int) := by omega
  clear hclr
  have hic : i ≤ c := by omega
  have hjc : j ≤ c := by omega
  have hij0 : ((i : Int) == (j : Int)) = false := by simp; omega
  have hijd : decide ((i : Int) = (j : Int)) = false := by simp; omega
  clear hfin ho2 ho1 hg hg1 hg2 hW1 hW2 hcur1 hcur2 hs1 hs2 htake htk hcs hcm hone hsrc hat hnews hown hlen hzs hi71 hsz71 hAA
  go_enter Try.func38, Try.ntmps38
  go_wp2_with (fail)
  refine wp_region_held_drew (S := (fun _ => True)) (by kernel_rfl) ?_ (fun hHeld => ?_)
  · trivial
  refine wpAnyH_take (i := 0) (v := ?_) rfl (by kernel_rfl) (by kernel_rfl) (by kernel_rfl) (fun _ _ _ h => h) (Or.inl ⟨by kernel_rfl, ?_⟩) hHeld ?_
  rotate_left
  · (intro w hSw; (try dsimp only at hSw); go_simp; try with_reducible rfl)
  change wpAnyH _ _ _ _ _ _ _ (Act.put _ (some 20) _) _
  simp only [Act.put, List.setIfInBounds_toArray, List.set_cons_zero, List.set_cons_succ]
  refine wpAnyH_take (i := 1) (v := ?_) rfl (by kernel_rfl) (by kernel_rfl) (by kernel_rfl) (fun _ _ _ h => h) (Or.inl ⟨by kernel_rfl, ?_⟩) hHeld ?_
  rotate_left
  · (intro w hSw; (try dsimp only at hSw); go_simp; try with_reducible rfl)
  change wpAnyH _ _ _ _ _ _ _ (Act.put _ (some 21) _) _
  simp only [Act.put, List.setIfInBounds_toArray, List.set_cons_zero, List.set_cons_succ]
  refine wpAnyH_take (i := 2) (v := ?_) rfl (by kernel_rfl) (by kernel_rfl) (by kernel_rfl) (fun _ _ _ h => h) (Or.inl ⟨by kernel_rfl, ?_⟩) hHeld ?_
  rotate_left
  · (intro w hSw; (try dsimp only at hSw); go_simp; try with_reducible rfl)
  change wpAnyH _ _ _ _ _ _ _ (Act.put _ (some 22) _) _
  simp only [Act.put, List.setIfInBounds_toArray, List.set_cons_zero, List.set_cons_succ]
  refine wpAnyH_take (i := 3) (v := ?_) rfl (by kernel_rfl) (by kernel_rfl) (by kernel_rfl) (fun _ _ _ h => h) (Or.inl ⟨by kernel_rfl, ?_⟩) hHeld ?_
  rotate_left
  · (intro w hSw; (try dsimp only at hSw); go_simp; try with_reducible rfl)
  change wpAnyH _ _ _ _ _ _ _ (Act.put _ (some 23) _) _
  simp only [Act.put, List.setIfInBounds_toArray, List.set_cons_zero, List.set_cons_succ]
  refine wpAnyH_take (i := 4) (v := ?_) rfl (by kernel_rfl) (by kernel_rfl) (by kernel_rfl) (fun _ _ _ h => h) (Or.inl ⟨by kernel_rfl, ?_⟩) hHeld ?_
  rotate_left
  · (intro w hSw; (try dsimp only at hSw); go_simp; try with_reducible rfl)
  change wpAnyH _ _ _ _ _ _ _ (Act.put _ (some 24) _) _
  simp only [Act.put, List.setIfInBounds_toArray, List.set_cons_zero, List.set_cons_succ]
  refine wpAnyH_take (i := 5) (v := ?_) rfl (by kernel_rfl) (by kernel_rfl) (by kernel_rfl) (fun _ _ _ h => h) (Or.inl ⟨by kernel_rfl, ?_⟩) hHeld ?_
  rotate_left
  · (intro w hSw; (try dsimp only at hSw); go_simp; try with_reducible rfl)
  change wpAnyH _ _ _ _ _ _ _ (Act.put _ (some 25) _) _
  simp only [Act.put, List.setIfInBounds_toArray, List.set_cons_zero, List.set_cons_succ]
  refine wpAnyH_ready (rs := [6]) (by kernel_rfl) (by simp) ?_
  refine AllReadyH.cons rfl (fun K hK => ?_) AllReadyH.nil
  rw [if_pos (by kernel_rfl)]
  refine wp_append_run hrun (.tmp 22) (.tmp 25) rfl rfl rfl ?hx ?_
  case hx => show Value.slice (if c = j then some ⟨g, 0, none⟩ else some ⟨g, j * 4, none⟩) (n - j) (c - j) = _; rw [HA.out]
  refine hK.out _ _ trivial (fun hHeld2 => ?_)
  clear hK K hHeld
  have hHeld := hHeld2; clear hHeld2
  try simp only [Act.put, List.setIfInBounds_toArray, List.set_cons_zero, List.set_cons_succ]
  refine wpAnyH_take (i := 7) (v := ?_) rfl (by kernel_rfl) (by kernel_rfl) (by kernel_rfl) (fun _ _ _ h => h) (Or.inl ⟨by kernel_rfl, ?_⟩) hHeld ?_
  rotate_left
  · (intro w hSw; (try dsimp only at hSw); go_simp; try with_reducible rfl)
  change wpAnyH _ _ _ _ _ _ _ (Act.put _ (some 0) _) _
  simp only [Act.put, List.setIfInBounds_toArray, List.set_cons_zero, List.set_cons_succ]
  refine wpAnyH_done (by kernel_rfl) ?_ _
  clear hrun hHeld
  go_wp2_with (fail)
  all_goals (go_ret; first | exact ⟨rfl, HF.out, HO.out⟩ | (have e : c = j := by assumption); rw [e] at HF; exact ⟨rfl, HF.out, HO.out⟩)

theorem delete_any {B : Nat} {w : World} {A : Option Addr} {c i j n : Nat} {L : List En} (hn : L.length = n) (hown : w.ownsRow B 71 4 (.slice A n c) n (flat4 L)) (hij : i ≤ j) (hj : j ≤ n) (h20 : n ≤ 1048576) :
    Calls Try.prog 38 #[.slice A n c, .int .i64 i, .int .i64 j] w fun e w' => e = .returned (.slice A (i + (n - j)) c) ∧ w'.ownsRow B 71 4 (.slice A (i + (n - j)) c) (i + (n - j)) (flat4 (L.take i ++ L.drop j)) ∧ Only (A.toList.map (·.block)) w w' := by
  have hc : n ≤ c := by
    rcases hown.2 with ⟨h1, h2⟩ | ⟨g', cap, cur, h1, _, _, h2, _⟩
    · omega
    · injection h1 with _ _ h7; omega
  rcases Nat.lt_or_ge i j with h | h
  · rcases hown.2 with ⟨h1, h2⟩ | ⟨g', cap, cur, h1, _⟩
    · omega
    · injection h1 with h1 _ _
      subst h1
      exact delete_some hn hown h hj h20
  · obtain rfl : i = j := by omega
    refine (delete_none hj hc h20).mono ?_
    rintro e w' ⟨rfl, rfl⟩
    have e1 : i + (n - i) = n := by omega
    rw [e1, List.take_append_drop]
    exact ⟨rfl, hown, Only.refl _ _⟩

end Go.Proofs.Ytcggeogpanackaa
