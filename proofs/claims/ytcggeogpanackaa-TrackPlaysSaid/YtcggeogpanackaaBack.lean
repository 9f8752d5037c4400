/- Back. -/
import Derived.Test.YtcggeogpanackaaBackA
namespace Go.Proofs.Ytcggeogpanackaa
open Go.RowKit Go.Kx
set_option maxRecDepth 20000

set_option maxHeartbeats 4000000 in
theorem back_any {B : Nat} {w : World} {g : Nat} {room : Int} {L : List En} {A : Option Addr} {c : Nat} {s : St} (hT : TB B w g room L A c) (hk : Trk L) (os : s.ok) (rs : stR s = true) (hlen : L.length ≤ 1048576) :
    Calls Try.prog 16 #[.pointer (some ⟨g, 0, none⟩), .agg #[.int .i64 s.1.1, .int .i64 s.1.2, .int .i64 s.2]] w fun e w' => ∃ v, e = .returned v ∧ IntsAt w' w.heap.size v (((L.drop (upToT L s)).map (·.2)).reverse) ∧ TB B w' g room (L.take (upToT L s)) A c ∧ Only (g :: A.toList.map (·.block)) w w' := by
  obtain ⟨n, hn⟩ : ∃ n, L.length = n := ⟨_, rfl⟩
  have hf := hT.own
  rw [hn] at hf
  have HK := Lib.hid hk
  have HT := Lib.hid hT
  have RS := Lib.hid rs
  have h20 : n ≤ 1048576 := by omega
  rcases own_form hf with ⟨rfl, h0, rfl⟩ | ⟨⟨b, rfl⟩, hnc⟩
  · clear hf hT rs hk
    subst h0
    go_enter Try.func16, Try.ntmps16
    go_wp2_with (fail)
    refine (strightr os RS.out _).mono ?_
    rintro e w2 ⟨rfl, o2⟩
    have O2 : Only [] w w2 := ((Only.refl _ _).alloc _).trans o2 (by simp)
    have b2 : Blk w2 w.heap.size 34 #[.int .i64 s.1.1, .int .i64 s.1.2, .int .i64 s.2] := o2.blk (Blk.new w 34 _) (by simp)
    obtain ⟨c0, c1, c2, c3⟩ := b2.facts3
    go_wp2_with (fail)
    refine (upTo_any (HT.out.keep O2) HK.out os RS.out hlen).mono ?_
    rintro e w3 ⟨rfl, o3⟩
    have O3 : Only [] w w3 := O2.trans o3 (by simp)
    have hi := upTo_le L s
    obtain ⟨i, hci⟩ : ∃ i, upToT L s = i := ⟨_, rfl⟩
    rw [hci] at hi ⊢
    have HCE := Lib.hid hci
    clear hci
    have T3 := HT.out.keep O3
    rw [hn] at hi
    have hw3 := T3.own
    have hb3 := T3.blk
    rw [hn] at hw3 hb3
    obtain ⟨g0, g1, gl⟩ := hb3.facts2
    clear c0 c1 c2 c3 b2 o2 o3
    obtain rfl : i = 0 := by omega
    go_wp2_with (fail)
    have hM : L.drop 0 = [] := by rw [List.drop_zero]; exact List.eq_nil_of_length_eq_zero hn
    refine (things_any (M := []) (Part.nil _ _) rfl (by omega)).mono ?_
    rintro e w4 ⟨v, rfl, hv, o4⟩
    have O4 : Only [] w w4 := O3.trans o4 (by simp)
    have hs3 := O3.size
    go_wp2_with (fail)
    refine (reverse_any hv (by simp <;> omega)).mono ?_
    rintro e w5 ⟨rfl, hv5, o5⟩
    have T4 := HT.out.keep O4
    have hvo := hv.own
    have hlt := HT.out.lt
    have hgl := HT.out.blk.lt
    have T5 := T4.keeps o5 (fun h => by have := hvo g h; omega) (fun p hp h => by have := hvo _ h; have := (hlt p hp).1; omega)
    have O5 : Only [] w w5 := O4.trans o5 (fun x hx => .inr (by have := hvo x hx; omega))
    clear o4 o5 hv T4 T3 hw3 hb3 g0 g1 gl O2 O3 O4
    have hw5 := T5.own
    have hb5 := T5.blk
    have hne5 := owns_ne T5.own T5.blk (by decide)
    rw [hn] at hw5 hb5 hne5
    obtain ⟨g0, g1, gl⟩ := hb5.facts2
    have fr := hb5.frozen 1
    have HV := Lib.hid hv5
    have HW := Lib.hid hw5
    have HBb := Lib.hid hb5
    have HO := Lib.hid O5
    have HNE := Lib.hid hne5
    have HLT := Lib.hid hlt
    clear hv5 hw5 hb5 T5 O5 hne5 hlt hvo
    go_wp2_with (fail)
    refine wp_region_held_drew (S := (fun _ => True)) (by kernel_rfl) trivial (fun hHeld => ?_)
    refine wpAnyH_take (i := 0) (v := ?_) rfl (by kernel_rfl) (by kernel_rfl) (by kernel_rfl) (fun _ _ _ h => h) (Or.inl ⟨by kernel_rfl, ?_⟩) hHeld ?_
    rotate_left
    · (intro w hSw; (try dsimp only at hSw); go_simp; try with_reducible rfl)
    change wpAnyH _ _ _ _ _ _ _ (Act.put _ (some 26) _) _
    simp only [Act.put, List.setIfInBounds_toArray, List.set_cons_zero, List.set_cons_succ]
    refine wpAnyH_take (i := 1) (v := ?_) rfl (by kernel_rfl) (by kernel_rfl) (by kernel_rfl) (fun _ _ _ h => h) (Or.inl ⟨by kernel_rfl, ?_⟩) hHeld ?_
    rotate_left
    · (intro w hSw; (try dsimp only at hSw); go_simp; try with_reducible rfl)
    change wpAnyH _ _ _ _ _ _ _ (Act.put _ (some 27) _) _
    simp only [Act.put, List.setIfInBounds_toArray, List.set_cons_zero, List.set_cons_succ]
    refine wpAnyH_take (i := 2) (v := ?_) rfl (by kernel_rfl) (by kernel_rfl) (by kernel_rfl) (fun _ _ _ h => h) (Or.inl ⟨by kernel_rfl, ?_⟩) hHeld ?_
    rotate_left
    · (intro w hSw; (try dsimp only at hSw); go_simp; try with_reducible rfl)
    change wpAnyH _ _ _ _ _ _ _ (Act.put _ (some 28) _) _
    simp only [Act.put, List.setIfInBounds_toArray, List.set_cons_zero, List.set_cons_succ]
    refine wpAnyH_take (i := 3) (v := ?_) rfl (by kernel_rfl) (by kernel_rfl) (by kernel_rfl) (fun _ _ _ h => h) (Or.inl ⟨by kernel_rfl, ?_⟩) hHeld ?_
    rotate_left
    · (intro w hSw; (try dsimp only at hSw); go_simp; try with_reducible rfl)
    change wpAnyH _ _ _ _ _ _ _ (Act.put _ (some 29) _) _
    simp only [Act.put, List.setIfInBounds_toArray, List.set_cons_zero, List.set_cons_succ]
    refine wpAnyH_take (i := 5) (v := ?_) rfl (by kernel_rfl) (by kernel_rfl) (by kernel_rfl) (fun _ _ _ h => h) (Or.inl ⟨by kernel_rfl, ?_⟩) hHeld ?_
    rotate_left
    · (intro w hSw; (try dsimp only at hSw); go_simp; try with_reducible rfl)
    change wpAnyH _ _ _ _ _ _ _ (Act.put _ (some 31) _) _
    simp only [Act.put, List.setIfInBounds_toArray, List.set_cons_zero, List.set_cons_succ]
    refine wpAnyH_take (i := 6) (v := ?_) rfl (by kernel_rfl) (by kernel_rfl) (by kernel_rfl) (fun _ _ _ h => h) (Or.inl ⟨by kernel_rfl, ?_⟩) hHeld ?_
    rotate_left
    · (intro w hSw; (try dsimp only at hSw); go_simp; try with_reducible rfl)
    change wpAnyH _ _ _ _ _ _ _ (Act.put _ (some 32) _) _
    simp only [Act.put, List.setIfInBounds_toArray, List.set_cons_zero, List.set_cons_succ]
    refine wpAnyH_take (i := 7) (v := ?_) rfl (by kernel_rfl) (by kernel_rfl) (by kernel_rfl) (fun _ _ _ h => h) (Or.inl ⟨by kernel_rfl, ?_⟩) hHeld ?_
    rotate_left
    · (intro w hSw; (try dsimp only at hSw); go_simp; try with_reducible rfl)
    change wpAnyH _ _ _ _ _ _ _ (Act.put _ (some 33) _) _
    simp only [Act.put, List.setIfInBounds_toArray, List.set_cons_zero, List.set_cons_succ]
    refine wpAnyH_take (i := 8) (v := ?_) rfl (by kernel_rfl) (by kernel_rfl) (by kernel_rfl) (fun _ _ _ h => h) (Or.inl ⟨by kernel_rfl, ?_⟩) hHeld ?_
    rotate_left
    · (intro w hSw; (try dsimp only at hSw); go_simp; try with_reducible rfl)
    change wpAnyH _ _ _ _ _ _ _ (Act.put _ (some 34) _) _
    simp only [Act.put, List.setIfInBounds_toArray, List.set_cons_zero, List.set_cons_succ]
    refine wpAnyH_ready (rs := [4, 9]) (by kernel_rfl) (by simp) ?_
    refine AllReadyH.cons rfl (fun K hK => ?_) (AllReadyH.cons rfl (fun K hK => ?_) AllReadyH.nil)
    · go_simp
      refine hK.out _ _ trivial (fun hHeld2 => ?_)
      clear hK K hHeld
      have hHeld := hHeld2; clear hHeld2
      try simp only [Act.put, List.setIfInBounds_toArray, List.set_cons_zero, List.set_cons_succ]
      refine wpAnyH_ready (rs := [9]) (by kernel_rfl) (by simp) ?_
      refine AllReadyH.cons rfl (fun K hK => ?_) AllReadyH.nil
      go_simp
      refine hK.out _ _ trivial (fun hHeld2 => ?_)
      clear hK K hHeld
      have hHeld := hHeld2; clear hHeld2
      try simp only [Act.put, List.setIfInBounds_toArray, List.set_cons_zero, List.set_cons_succ]
      refine wpAnyH_ready (rs := [10]) (by kernel_rfl) (by simp) ?_
      refine AllReadyH.cons rfl (fun K hK => ?_) AllReadyH.nil
      go_simp
      refine hK.out _ _ trivial (fun hHeld2 => ?_)
      clear hK K hHeld
      have hHeld := hHeld2; clear hHeld2
      try simp only [Act.put, List.setIfInBounds_toArray, List.set_cons_zero, List.set_cons_succ]
      refine wpAnyH_ready (rs := [11]) (by kernel_rfl) (by simp) ?_
      refine AllReadyH.cons rfl (fun K hK => ?_) AllReadyH.nil
      go_simp
      refine (delete_any (A := none) (c := 0) hn (show World.ownsRow w5.drew _ _ _ _ _ _ from HW.out) hi (Nat.le_refl _) (by omega)).mono ?_
      rintro e w6 ⟨rfl, hw6, o6⟩
      have bg6 := o6.blk (show Blk w5.drew g 66 _ from HBb.out) (fun h => by simp at h)
      obtain ⟨q0, q1, ql⟩ := bg6.facts2
      have fr6 := bg6.frozen 1
      have HW6 := Lib.hid hw6
      have HO6 := Lib.hid o6
      have HB6 := Lib.hid bg6
      clear hw6 o6 bg6
      refine hK.out _ _ trivial (fun hHeld2 => ?_)
      clear hK K hHeld
      have hHeld := hHeld2; clear hHeld2
      try simp only [Act.put, List.setIfInBounds_toArray, List.set_cons_zero, List.set_cons_succ]
      refine wpAnyH_take (i := 12) (v := ?_) rfl (by kernel_rfl) (by kernel_rfl) (by kernel_rfl) (fun _ _ _ h => h) (Or.inl ⟨by kernel_rfl, ?_⟩) hHeld ?_
      rotate_left
      · (intro w hSw; (try dsimp only at hSw); go_simp; try with_reducible rfl)
      change wpAnyH _ _ _ _ _ _ _ (Act.put _ (some 38) _) _
      simp only [Act.put, List.setIfInBounds_toArray, List.set_cons_zero, List.set_cons_succ]
      refine wpAnyH_take (i := 13) (v := ?_) rfl (by kernel_rfl) (by kernel_rfl) (by kernel_rfl) (fun _ _ _ h => h) (Or.inl ⟨by kernel_rfl, ?_⟩) hHeld ?_
      rotate_left
      · (intro w hSw; (try dsimp only at hSw); go_simp; try with_reducible rfl)
      change wpAnyH _ _ _ _ _ _ _ (Act.put _ (some 39) _) _
      simp only [Act.put, List.setIfInBounds_toArray, List.set_cons_zero, List.set_cons_succ]
      refine wpAnyH_ready (rs := [14]) (by kernel_rfl) (by simp) ?_
      refine AllReadyH.cons rfl (fun K hK => ?_) AllReadyH.nil
      go_simp
      refine hK.out _ _ trivial (fun hHeld2 => ?_)
      clear hK K hHeld
      have hHeld := hHeld2; clear hHeld2
      try simp only [Act.put, List.setIfInBounds_toArray, List.set_cons_zero, List.set_cons_succ]
      refine wpAnyH_done (by kernel_rfl) ?_ _
      go_wp2_with (fail)
      go_ret
      rw [HCE.out]
      rw [hM]
      have q := back_fin (i := 0) (n := 0) hn HT.out HO.out.drew HLT.out hgl HV.out.drew HB6.out HW6.out HO6.out (by omega) (by omega)
      exact ⟨v, rfl, q⟩
    · go_simp
      refine hK.out _ _ trivial (fun hHeld2 => ?_)
      clear hK K hHeld
      have hHeld := hHeld2; clear hHeld2
      try simp only [Act.put, List.setIfInBounds_toArray, List.set_cons_zero, List.set_cons_succ]
      refine wpAnyH_ready (rs := [4, 10]) (by kernel_rfl) (by simp) ?_
      refine AllReadyH.cons rfl (fun K hK => ?_) (AllReadyH.cons rfl (fun K hK => ?_) AllReadyH.nil)
      · go_simp
        refine hK.out _ _ trivial (fun hHeld2 => ?_)
        clear hK K hHeld
        have hHeld := hHeld2; clear hHeld2
        try simp only [Act.put, List.setIfInBounds_toArray, List.set_cons_zero, List.set_cons_succ]
        refine wpAnyH_ready (rs := [10]) (by kernel_rfl) (by simp) ?_
        refine AllReadyH.cons rfl (fun K hK => ?_) AllReadyH.nil
        go_simp
        refine hK.out _ _ trivial (fun hHeld2 => ?_)
        clear hK K hHeld
        have hHeld := hHeld2; clear hHeld2
        try simp only [Act.put, List.setIfInBounds_toArray, List.set_cons_zero, List.set_cons_succ]
        refine wpAnyH_ready (rs := [11]) (by kernel_rfl) (by simp) ?_
        refine AllReadyH.cons rfl (fun K hK => ?_) AllReadyH.nil
        go_simp
        refine (delete_any (A := none) (c := 0) hn (show World.ownsRow w5.drew _ _ _ _ _ _ from HW.out) hi (Nat.le_refl _) (by omega)).mono ?_
        rintro e w6 ⟨rfl, hw6, o6⟩
        have bg6 := o6.blk (show Blk w5.drew g 66 _ from HBb.out) (fun h => by simp at h)
        obtain ⟨q0, q1, ql⟩ := bg6.facts2
        have fr6 := bg6.frozen 1
        have HW6 := Lib.hid hw6
        have HO6 := Lib.hid o6
        have HB6 := Lib.hid bg6
        clear hw6 o6 bg6
        refine hK.out _ _ trivial (fun hHeld2 => ?_)
        clear hK K hHeld
        have hHeld := hHeld2; clear hHeld2
        try simp only [Act.put, List.setIfInBounds_toArray, List.set_cons_zero, List.set_cons_succ]
        refine wpAnyH_take (i := 12) (v := ?_) rfl (by kernel_rfl) (by kernel_rfl) (by kernel_rfl) (fun _ _ _ h => h) (Or.inl ⟨by kernel_rfl, ?_⟩) hHeld ?_
        rotate_left
        · (intro w hSw; (try dsimp only at hSw); go_simp; try with_reducible rfl)
        change wpAnyH _ _ _ _ _ _ _ (Act.put _ (some 38) _) _
        simp only [Act.put, List.setIfInBounds_toArray, List.set_cons_zero, List.set_cons_succ]
        refine wpAnyH_take (i := 13) (v := ?_) rfl (by kernel_rfl) (by kernel_rfl) (by kernel_rfl) (fun _ _ _ h => h) (Or.inl ⟨by kernel_rfl, ?_⟩) hHeld ?_
        rotate_left
        · (intro w hSw; (try dsimp only at hSw); go_simp; try with_reducible rfl)
        change wpAnyH _ _ _ _ _ _ _ (Act.put _ (some 39) _) _
        simp only [Act.put, List.setIfInBounds_toArray, List.set_cons_zero, List.set_cons_succ]
        refine wpAnyH_ready (rs := [14]) (by kernel_rfl) (by simp) ?_
        refine AllReadyH.cons rfl (fun K hK => ?_) AllReadyH.nil
        go_simp
        refine hK.out _ _ trivial (fun hHeld2 => ?_)
        clear hK K hHeld
        have hHeld := hHeld2; clear hHeld2
        try simp only [Act.put, List.setIfInBounds_toArray, List.set_cons_zero, List.set_cons_succ]
        refine wpAnyH_done (by kernel_rfl) ?_ _
        go_wp2_with (fail)
        go_ret
        rw [HCE.out]
        rw [hM]
        have q := back_fin (i := 0) (n := 0) hn HT.out HO.out.drew HLT.out hgl HV.out.drew HB6.out HW6.out HO6.out (by omega) (by omega)
        exact ⟨v, rfl, q⟩
      · go_simp
        refine hK.out _ _ trivial (fun hHeld2 => ?_)
        clear hK K hHeld
        have hHeld := hHeld2; clear hHeld2
        try simp only [Act.put, List.setIfInBounds_toArray, List.set_cons_zero, List.set_cons_succ]
        refine wpAnyH_ready (rs := [4]) (by kernel_rfl) (by simp) ?_
        refine AllReadyH.cons rfl (fun K hK => ?_) AllReadyH.nil
        go_simp
        refine hK.out _ _ trivial (fun hHeld2 => ?_)
        clear hK K hHeld
        have hHeld := hHeld2; clear hHeld2
        try simp only [Act.put, List.setIfInBounds_toArray, List.set_cons_zero, List.set_cons_succ]
        refine wpAnyH_ready (rs := [11]) (by kernel_rfl) (by simp) ?_
        refine AllReadyH.cons rfl (fun K hK => ?_) AllReadyH.nil
        go_simp
        refine (delete_any (A := none) (c := 0) hn (show World.ownsRow w5.drew _ _ _ _ _ _ from HW.out) hi (Nat.le_refl _) (by omega)).mono ?_
        rintro e w6 ⟨rfl, hw6, o6⟩
        have bg6 := o6.blk (show Blk w5.drew g 66 _ from HBb.out) (fun h => by simp at h)
        obtain ⟨q0, q1, ql⟩ := bg6.facts2
        have fr6 := bg6.frozen 1
        have HW6 := Lib.hid hw6
        have HO6 := Lib.hid o6
        have HB6 := Lib.hid bg6
        clear hw6 o6 bg6
        refine hK.out _ _ trivial (fun hHeld2 => ?_)
        clear hK K hHeld
        have hHeld := hHeld2; clear hHeld2
        try simp only [Act.put, List.setIfInBounds_toArray, List.set_cons_zero, List.set_cons_succ]
        refine wpAnyH_take (i := 12) (v := ?_) rfl (by kernel_rfl) (by kernel_rfl) (by kernel_rfl) (fun _ _ _ h => h) (Or.inl ⟨by kernel_rfl, ?_⟩) hHeld ?_
        rotate_left
        · (intro w hSw; (try dsimp only at hSw); go_simp; try with_reducible rfl)
        change wpAnyH _ _ _ _ _ _ _ (Act.put _ (some 38) _) _
        simp only [Act.put, List.setIfInBounds_toArray, List.set_cons_zero, List.set_cons_succ]
        refine wpAnyH_take (i := 13) (v := ?_) rfl (by kernel_rfl) (by kernel_rfl) (by kernel_rfl) (fun _ _ _ h => h) (Or.inl ⟨by kernel_rfl, ?_⟩) hHeld ?_
        rotate_left
        · (intro w hSw; (try dsimp only at hSw); go_simp; try with_reducible rfl)
        change wpAnyH _ _ _ _ _ _ _ (Act.put _ (some 39) _) _
        simp only [Act.put, List.setIfInBounds_toArray, List.set_cons_zero, List.set_cons_succ]
        refine wpAnyH_ready (rs := [14]) (by kernel_rfl) (by simp) ?_
        refine AllReadyH.cons rfl (fun K hK => ?_) AllReadyH.nil
        go_simp
        refine hK.out _ _ trivial (fun hHeld2 => ?_)
        clear hK K hHeld
        have hHeld := hHeld2; clear hHeld2
        try simp only [Act.put, List.setIfInBounds_toArray, List.set_cons_zero, List.set_cons_succ]
        refine wpAnyH_done (by kernel_rfl) ?_ _
        go_wp2_with (fail)
        go_ret
        rw [HCE.out]
        rw [hM]
        have q := back_fin (i := 0) (n := 0) hn HT.out HO.out.drew HLT.out hgl HV.out.drew HB6.out HW6.out HO6.out (by omega) (by omega)
        exact ⟨v, rfl, q⟩
  · clear hf hT rs hk
    go_enter Try.func16, Try.ntmps16
    go_wp2_with (fail)
    refine (strightr os RS.out _).mono ?_
    rintro e w2 ⟨rfl, o2⟩
    have O2 : Only [] w w2 := ((Only.refl _ _).alloc _).trans o2 (by simp)
    have b2 : Blk w2 w.heap.size 34 #[.int .i64 s.1.1, .int .i64 s.1.2, .int .i64 s.2] := o2.blk (Blk.new w 34 _) (by simp)
    obtain ⟨c0, c1, c2, c3⟩ := b2.facts3
    go_wp2_with (fail)
    refine (upTo_any (HT.out.keep O2) HK.out os RS.out hlen).mono ?_
    rintro e w3 ⟨rfl, o3⟩
    have O3 : Only [] w w3 := O2.trans o3 (by simp)
    have hi := upTo_le L s
    obtain ⟨i, hci⟩ : ∃ i, upToT L s = i := ⟨_, rfl⟩
    rw [hci] at hi ⊢
    have HCE := Lib.hid hci
    clear hci
    have T3 := HT.out.keep O3
    rw [hn] at hi
    have hw3 := T3.own
    have hb3 := T3.blk
    rw [hn] at hw3 hb3
    obtain ⟨g0, g1, gl⟩ := hb3.facts2
    clear c0 c1 c2 c3 b2 o2 o3
    have hic : i ≤ c := by omega
    have hicI : (i : Int) ≤ (n : Int) := by omega
    by_cases hce : c = i
    · have e1 : n = i := by omega
      subst e1
      have e2 : n = c := hce.symm
      subst e2
      clear hce
      go_wp2_with (fail)
      have hM : L.drop n = [] := List.drop_eq_nil_of_le (by omega)
      refine (things_any (M := L.drop n) ((by rw [List.drop_eq_nil_of_le (by omega)]; exact Part.nil _ _)) (by simp [hn]) (by omega)).mono ?_
      rintro e w4 ⟨v, rfl, hv, o4⟩
      have O4 : Only [] w w4 := O3.trans o4 (by simp)
      have hs3 := O3.size
      go_wp2_with (fail)
      refine (reverse_any hv (by simp <;> omega)).mono ?_
      rintro e w5 ⟨rfl, hv5, o5⟩
      have T4 := HT.out.keep O4
      have hvo := hv.own
      have hlt := HT.out.lt
      have hgl := HT.out.blk.lt
      have T5 := T4.keeps o5 (fun h => by have := hvo g h; omega) (fun p hp h => by have := hvo _ h; have := (hlt p hp).1; omega)
      have O5 : Only [] w w5 := O4.trans o5 (fun x hx => .inr (by have := hvo x hx; omega))
      clear o4 o5 hv T4 T3 hw3 hb3 g0 g1 gl O2 O3 O4
      have hw5 := T5.own
      have hb5 := T5.blk
      have hne5 := owns_ne T5.own T5.blk (by decide)
      rw [hn] at hw5 hb5 hne5
      obtain ⟨g0, g1, gl⟩ := hb5.facts2
      have fr := hb5.frozen 1
      have HV := Lib.hid hv5
      have HW := Lib.hid hw5
      have HBb := Lib.hid hb5
      have HO := Lib.hid O5
      have HNE := Lib.hid hne5
      have HLT := Lib.hid hlt
      clear hv5 hw5 hb5 T5 O5 hne5 hlt hvo
      go_wp2_with (fail)
      refine wp_region_held_drew (S := (fun _ => True)) (by kernel_rfl) trivial (fun hHeld => ?_)
      refine wpAnyH_take (i := 0) (v := ?_) rfl (by kernel_rfl) (by kernel_rfl) (by kernel_rfl) (fun _ _ _ h => h) (Or.inl ⟨by kernel_rfl, ?_⟩) hHeld ?_
      rotate_left
      · (intro w hSw; (try dsimp only at hSw); go_simp; try with_reducible rfl)
      change wpAnyH _ _ _ _ _ _ _ (Act.put _ (some 26) _) _
      simp only [Act.put, List.setIfInBounds_toArray, List.set_cons_zero, List.set_cons_succ]
      refine wpAnyH_take (i := 1) (v := ?_) rfl (by kernel_rfl) (by kernel_rfl) (by kernel_rfl) (fun _ _ _ h => h) (Or.inl ⟨by kernel_rfl, ?_⟩) hHeld ?_
      rotate_left
      · (intro w hSw; (try dsimp only at hSw); go_simp; try with_reducible rfl)
      change wpAnyH _ _ _ _ _ _ _ (Act.put _ (some 27) _) _
      simp only [Act.put, List.setIfInBounds_toArray, List.set_cons_zero, List.set_cons_succ]
      refine wpAnyH_take (i := 2) (v := ?_) rfl (by kernel_rfl) (by kernel_rfl) (by kernel_rfl) (fun _ _ _ h => h) (Or.inl ⟨by kernel_rfl, ?_⟩) hHeld ?_
      rotate_left
      · (intro w hSw; (try dsimp only at hSw); go_simp; try with_reducible rfl)
      change wpAnyH _ _ _ _ _ _ _ (Act.put _ (some 28) _) _
      simp only [Act.put, List.setIfInBounds_toArray, List.set_cons_zero, List.set_cons_succ]
      refine wpAnyH_take (i := 3) (v := ?_) rfl (by kernel_rfl) (by kernel_rfl) (by kernel_rfl) (fun _ _ _ h => h) (Or.inl ⟨by kernel_rfl, ?_⟩) hHeld ?_
      rotate_left
      · (intro w hSw; (try dsimp only at hSw); go_simp; try with_reducible rfl)
      change wpAnyH _ _ _ _ _ _ _ (Act.put _ (some 29) _) _
      simp only [Act.put, List.setIfInBounds_toArray, List.set_cons_zero, List.set_cons_succ]
      refine wpAnyH_take (i := 5) (v := ?_) rfl (by kernel_rfl) (by kernel_rfl) (by kernel_rfl) (fun _ _ _ h => h) (Or.inl ⟨by kernel_rfl, ?_⟩) hHeld ?_
      rotate_left
      · (intro w hSw; (try dsimp only at hSw); go_simp; try with_reducible rfl)
      change wpAnyH _ _ _ _ _ _ _ (Act.put _ (some 31) _) _
      simp only [Act.put, List.setIfInBounds_toArray, List.set_cons_zero, List.set_cons_succ]
      refine wpAnyH_take (i := 6) (v := ?_) rfl (by kernel_rfl) (by kernel_rfl) (by kernel_rfl) (fun _ _ _ h => h) (Or.inl ⟨by kernel_rfl, ?_⟩) hHeld ?_
      rotate_left
      · (intro w hSw; (try dsimp only at hSw); go_simp; try with_reducible rfl)
      change wpAnyH _ _ _ _ _ _ _ (Act.put _ (some 32) _) _
      simp only [Act.put, List.setIfInBounds_toArray, List.set_cons_zero, List.set_cons_succ]
      refine wpAnyH_take (i := 7) (v := ?_) rfl (by kernel_rfl) (by kernel_rfl) (by kernel_rfl) (fun _ _ _ h => h) (Or.inl ⟨by kernel_rfl, ?_⟩) hHeld ?_
      rotate_left
      · (intro w hSw; (try dsimp only at hSw); go_simp; try with_reducible rfl)
      change wpAnyH _ _ _ _ _ _ _ (Act.put _ (some 33) _) _
      simp only [Act.put, List.setIfInBounds_toArray, List.set_cons_zero, List.set_cons_succ]
      refine wpAnyH_take (i := 8) (v := ?_) rfl (by kernel_rfl) (by kernel_rfl) (by kernel_rfl) (fun _ _ _ h => h) (Or.inl ⟨by kernel_rfl, ?_⟩) hHeld ?_
      rotate_left
      · (intro w hSw; (try dsimp only at hSw); go_simp; try with_reducible rfl)
      change wpAnyH _ _ _ _ _ _ _ (Act.put _ (some 34) _) _
      simp only [Act.put, List.setIfInBounds_toArray, List.set_cons_zero, List.set_cons_succ]
      refine wpAnyH_ready (rs := [4, 9]) (by kernel_rfl) (by simp) ?_
      refine AllReadyH.cons rfl (fun K hK => ?_) (AllReadyH.cons rfl (fun K hK => ?_) AllReadyH.nil)
      · go_simp
        refine hK.out _ _ trivial (fun hHeld2 => ?_)
        clear hK K hHeld
        have hHeld := hHeld2; clear hHeld2
        try simp only [Act.put, List.setIfInBounds_toArray, List.set_cons_zero, List.set_cons_succ]
        refine wpAnyH_ready (rs := [9]) (by kernel_rfl) (by simp) ?_
        refine AllReadyH.cons rfl (fun K hK => ?_) AllReadyH.nil
        go_simp
        refine hK.out _ _ trivial (fun hHeld2 => ?_)
        clear hK K hHeld
        have hHeld := hHeld2; clear hHeld2
        try simp only [Act.put, List.setIfInBounds_toArray, List.set_cons_zero, List.set_cons_succ]
        refine wpAnyH_ready (rs := [10]) (by kernel_rfl) (by simp) ?_
        refine AllReadyH.cons rfl (fun K hK => ?_) AllReadyH.nil
        go_simp
        refine hK.out _ _ trivial (fun hHeld2 => ?_)
        clear hK K hHeld
        have hHeld := hHeld2; clear hHeld2
        try simp only [Act.put, List.setIfInBounds_toArray, List.set_cons_zero, List.set_cons_succ]
        refine wpAnyH_ready (rs := [11]) (by kernel_rfl) (by simp) ?_
        refine AllReadyH.cons rfl (fun K hK => ?_) AllReadyH.nil
        go_simp
        refine (delete_any hn (show World.ownsRow w5.drew _ _ _ _ _ _ from HW.out) hi (Nat.le_refl _) (by omega)).mono ?_
        rintro e w6 ⟨rfl, hw6, o6⟩
        have bg6 := o6.blk (show Blk w5.drew g 66 _ from HBb.out) (fun h => by exact HNE.out (by simpa [Value.ownBlock, eq_comm] using h))
        obtain ⟨q0, q1, ql⟩ := bg6.facts2
        have fr6 := bg6.frozen 1
        have HW6 := Lib.hid hw6
        have HO6 := Lib.hid o6
        have HB6 := Lib.hid bg6
        clear hw6 o6 bg6
        refine hK.out _ _ trivial (fun hHeld2 => ?_)
        clear hK K hHeld
        have hHeld := hHeld2; clear hHeld2
        try simp only [Act.put, List.setIfInBounds_toArray, List.set_cons_zero, List.set_cons_succ]
        refine wpAnyH_take (i := 12) (v := ?_) rfl (by kernel_rfl) (by kernel_rfl) (by kernel_rfl) (fun _ _ _ h => h) (Or.inl ⟨by kernel_rfl, ?_⟩) hHeld ?_
        rotate_left
        · (intro w hSw; (try dsimp only at hSw); go_simp; try with_reducible rfl)
        change wpAnyH _ _ _ _ _ _ _ (Act.put _ (some 38) _) _
        simp only [Act.put, List.setIfInBounds_toArray, List.set_cons_zero, List.set_cons_succ]
        refine wpAnyH_take (i := 13) (v := ?_) rfl (by kernel_rfl) (by kernel_rfl) (by kernel_rfl) (fun _ _ _ h => h) (Or.inl ⟨by kernel_rfl, ?_⟩) hHeld ?_
        rotate_left
        · (intro w hSw; (try dsimp only at hSw); go_simp; try with_reducible rfl)
        change wpAnyH _ _ _ _ _ _ _ (Act.put _ (some 39) _) _
        simp only [Act.put, List.setIfInBounds_toArray, List.set_cons_zero, List.set_cons_succ]
        refine wpAnyH_ready (rs := [14]) (by kernel_rfl) (by simp) ?_
        refine AllReadyH.cons rfl (fun K hK => ?_) AllReadyH.nil
        go_simp
        refine hK.out _ _ trivial (fun hHeld2 => ?_)
        clear hK K hHeld
        have hHeld := hHeld2; clear hHeld2
        try simp only [Act.put, List.setIfInBounds_toArray, List.set_cons_zero, List.set_cons_succ]
        refine wpAnyH_done (by kernel_rfl) ?_ _
        go_wp2_with (fail)
        go_ret
        rw [HCE.out]
        have q := back_fin hn HT.out HO.out.drew HLT.out hgl HV.out.drew HB6.out HW6.out HO6.out (by omega) (by omega)
        exact ⟨v, rfl, q⟩
      · go_simp
        refine hK.out _ _ trivial (fun hHeld2 => ?_)
        clear hK K hHeld
        have hHeld := hHeld2; clear hHeld2
        try simp only [Act.put, List.setIfInBounds_toArray, List.set_cons_zero, List.set_cons_succ]
        refine wpAnyH_ready (rs := [4, 10]) (by kernel_rfl) (by simp) ?_
        refine AllReadyH.cons rfl (fun K hK => ?_) (AllReadyH.cons rfl (fun K hK => ?_) AllReadyH.nil)
        · go_simp
          refine hK.out _ _ trivial (fun hHeld2 => ?_)
          clear hK K hHeld
          have hHeld := hHeld2; clear hHeld2
          try simp only [Act.put, List.setIfInBounds_toArray, List.set_cons_zero, List.set_cons_succ]
          refine wpAnyH_ready (rs := [10]) (by kernel_rfl) (by simp) ?_
          refine AllReadyH.cons rfl (fun K hK => ?_) AllReadyH.nil
          go_simp
          refine hK.out _ _ trivial (fun hHeld2 => ?_)
          clear hK K hHeld
          have hHeld := hHeld2; clear hHeld2
          try simp only [Act.put, List.setIfInBounds_toArray, List.set_cons_zero, List.set_cons_succ]
          refine wpAnyH_ready (rs := [11]) (by kernel_rfl) (by simp) ?_
          refine AllReadyH.cons rfl (fun K hK => ?_) AllReadyH.nil
          go_simp
          refine (delete_any hn (show World.ownsRow w5.drew _ _ _ _ _ _ from HW.out) hi (Nat.le_refl _) (by omega)).mono ?_
          rintro e w6 ⟨rfl, hw6, o6⟩
          have bg6 := o6.blk (show Blk w5.drew g 66 _ from HBb.out) (fun h => by exact HNE.out (by simpa [Value.ownBlock, eq_comm] using h))
          obtain ⟨q0, q1, ql⟩ := bg6.facts2
          have fr6 := bg6.frozen 1
          have HW6 := Lib.hid hw6
          have HO6 := Lib.hid o6
          have HB6 := Lib.hid bg6
          clear hw6 o6 bg6
          refine hK.out _ _ trivial (fun hHeld2 => ?_)
          clear hK K hHeld
          have hHeld := hHeld2; clear hHeld2
          try simp only [Act.put, List.setIfInBounds_toArray, List.set_cons_zero, List.set_cons_succ]
          refine wpAnyH_take (i := 12) (v := ?_) rfl (by kernel_rfl) (by kernel_rfl) (by kernel_rfl) (fun _ _ _ h => h) (Or.inl ⟨by kernel_rfl, ?_⟩) hHeld ?_
          rotate_left
          · (intro w hSw; (try dsimp only at hSw); go_simp; try with_reducible rfl)
          change wpAnyH _ _ _ _ _ _ _ (Act.put _ (some 38) _) _
          simp only [Act.put, List.setIfInBounds_toArray, List.set_cons_zero, List.set_cons_succ]
          refine wpAnyH_take (i := 13) (v := ?_) rfl (by kernel_rfl) (by kernel_rfl) (by kernel_rfl) (fun _ _ _ h => h) (Or.inl ⟨by kernel_rfl, ?_⟩) hHeld ?_
          rotate_left
          · (intro w hSw; (try dsimp only at hSw); go_simp; try with_reducible rfl)
          change wpAnyH _ _ _ _ _ _ _ (Act.put _ (some 39) _) _
          simp only [Act.put, List.setIfInBounds_toArray, List.set_cons_zero, List.set_cons_succ]
          refine wpAnyH_ready (rs := [14]) (by kernel_rfl) (by simp) ?_
          refine AllReadyH.cons rfl (fun K hK => ?_) AllReadyH.nil
          go_simp
          refine hK.out _ _ trivial (fun hHeld2 => ?_)
          clear hK K hHeld
          have hHeld := hHeld2; clear hHeld2
          try simp only [Act.put, List.setIfInBounds_toArray, List.set_cons_zero, List.set_cons_succ]
          refine wpAnyH_done (by kernel_rfl) ?_ _
          go_wp2_with (fail)
          go_ret
          rw [HCE.out]
          have q := back_fin hn HT.out HO.out.drew HLT.out hgl HV.out.drew HB6.out HW6.out HO6.out (by omega) (by omega)
          exact ⟨v, rfl, q⟩
        · go_simp
          refine hK.out _ _ trivial (fun hHeld2 => ?_)
          clear hK K hHeld
          have hHeld := hHeld2; clear hHeld2
          try simp only [Act.put, List.setIfInBounds_toArray, List.set_cons_zero, List.set_cons_succ]
          refine wpAnyH_ready (rs := [4]) (by kernel_rfl) (by simp) ?_
          refine AllReadyH.cons rfl (fun K hK => ?_) AllReadyH.nil
          go_simp
          refine hK.out _ _ trivial (fun hHeld2 => ?_)
          clear hK K hHeld
          have hHeld := hHeld2; clear hHeld2
          try simp only [Act.put, List.setIfInBounds_toArray, List.set_cons_zero, List.set_cons_succ]
          refine wpAnyH_ready (rs := [11]) (by kernel_rfl) (by simp) ?_
          refine AllReadyH.cons rfl (fun K hK => ?_) AllReadyH.nil
          go_simp
          refine (delete_any hn (show World.ownsRow w5.drew _ _ _ _ _ _ from HW.out) hi (Nat.le_refl _) (by omega)).mono ?_
          rintro e w6 ⟨rfl, hw6, o6⟩
          have bg6 := o6.blk (show Blk w5.drew g 66 _ from HBb.out) (fun h => by exact HNE.out (by simpa [Value.ownBlock, eq_comm] using h))
          obtain ⟨q0, q1, ql⟩ := bg6.facts2
          have fr6 := bg6.frozen 1
          have HW6 := Lib.hid hw6
          have HO6 := Lib.hid o6
          have HB6 := Lib.hid bg6
          clear hw6 o6 bg6
          refine hK.out _ _ trivial (fun hHeld2 => ?_)
          clear hK K hHeld
          have hHeld := hHeld2; clear hHeld2
          try simp only [Act.put, List.setIfInBounds_toArray, List.set_cons_zero, List.set_cons_succ]
          refine wpAnyH_take (i := 12) (v := ?_) rfl (by kernel_rfl) (by kernel_rfl) (by kernel_rfl) (fun _ _ _ h => h) (Or.inl ⟨by kernel_rfl, ?_⟩) hHeld ?_
          rotate_left
          · (intro w hSw; (try dsimp only at hSw); go_simp; try with_reducible rfl)
          change wpAnyH _ _ _ _ _ _ _ (Act.put _ (some 38) _) _
          simp only [Act.put, List.setIfInBounds_toArray, List.set_cons_zero, List.set_cons_succ]
          refine wpAnyH_take (i := 13) (v := ?_) rfl (by kernel_rfl) (by kernel_rfl) (by kernel_rfl) (fun _ _ _ h => h) (Or.inl ⟨by kernel_rfl, ?_⟩) hHeld ?_
          rotate_left
          · (intro w hSw; (try dsimp only at hSw); go_simp; try with_reducible rfl)
          change wpAnyH _ _ _ _ _ _ _ (Act.put _ (some 39) _) _
          simp only [Act.put, List.setIfInBounds_toArray, List.set_cons_zero, List.set_cons_succ]
          refine wpAnyH_ready (rs := [14]) (by kernel_rfl) (by simp) ?_
          refine AllReadyH.cons rfl (fun K hK => ?_) AllReadyH.nil
          go_simp
          refine hK.out _ _ trivial (fun hHeld2 => ?_)
          clear hK K hHeld
          have hHeld := hHeld2; clear hHeld2
          try simp only [Act.put, List.setIfInBounds_toArray, List.set_cons_zero, List.set_cons_succ]
          refine wpAnyH_done (by kernel_rfl) ?_ _
          go_wp2_with (fail)
          go_ret
          rw [HCE.out]
          have q := back_fin hn HT.out HO.out.drew HLT.out hgl HV.out.drew HB6.out HW6.out HO6.out (by omega) (by omega)
          exact ⟨v, rfl, q⟩
    · go_wp2_with (fail)
      refine (things_any (M := L.drop i) ((by have q := part_drop hn hw3 hnc i; rw [if_neg hce] at q; exact q)) (by simp [hn]) (by omega)).mono ?_
      rintro e w4 ⟨v, rfl, hv, o4⟩
      have O4 : Only [] w w4 := O3.trans o4 (by simp)
      have hs3 := O3.size
      go_wp2_with (fail)
      refine (reverse_any hv (by simp <;> omega)).mono ?_
      rintro e w5 ⟨rfl, hv5, o5⟩
      have T4 := HT.out.keep O4
      have hvo := hv.own
      have hlt := HT.out.lt
      have hgl := HT.out.blk.lt
      have T5 := T4.keeps o5 (fun h => by have := hvo g h; omega) (fun p hp h => by have := hvo _ h; have := (hlt p hp).1; omega)
      have O5 : Only [] w w5 := O4.trans o5 (fun x hx => .inr (by have := hvo x hx; omega))
      clear o4 o5 hv T4 T3 hw3 hb3 g0 g1 gl O2 O3 O4
      have hw5 := T5.own
      have hb5 := T5.blk
      have hne5 := owns_ne T5.own T5.blk (by decide)
      rw [hn] at hw5 hb5 hne5
      obtain ⟨g0, g1, gl⟩ := hb5.facts2
      have fr := hb5.frozen 1
      have HV := Lib.hid hv5
      have HW := Lib.hid hw5
      have HBb := Lib.hid hb5
      have HO := Lib.hid O5
      have HNE := Lib.hid hne5
      have HLT := Lib.hid hlt
      clear hv5 hw5 hb5 T5 O5 hne5 hlt hvo
      go_wp2_with (fail)
      refine wp_region_held_drew (S := (fun _ => True)) (by kernel_rfl) trivial (fun hHeld => ?_)
      refine wpAnyH_take (i := 0) (v := ?_) rfl (by kernel_rfl) (by kernel_rfl) (by kernel_rfl) (fun _ _ _ h => h) (Or.inl ⟨by kernel_rfl, ?_⟩) hHeld ?_
      rotate_left
      · (intro w hSw; (try dsimp only at hSw); go_simp; try with_reducible rfl)
      change wpAnyH _ _ _ _ _ _ _ (Act.put _ (some 26) _) _
      simp only [Act.put, List.setIfInBounds_toArray, List.set_cons_zero, List.set_cons_succ]
      refine wpAnyH_take (i := 1) (v := ?_) rfl (by kernel_rfl) (by kernel_rfl) (by kernel_rfl) (fun _ _ _ h => h) (Or.inl ⟨by kernel_rfl, ?_⟩) hHeld ?_
      rotate_left
      · (intro w hSw; (try dsimp only at hSw); go_simp; try with_reducible rfl)
      change wpAnyH _ _ _ _ _ _ _ (Act.put _ (some 27) _) _
      simp only [Act.put, List.setIfInBounds_toArray, List.set_cons_zero, List.set_cons_succ]
      refine wpAnyH_take (i := 2) (v := ?_) rfl (by kernel_rfl) (by kernel_rfl) (by kernel_rfl) (fun _ _ _ h => h) (Or.inl ⟨by kernel_rfl, ?_⟩) hHeld ?_
      rotate_left
      · (intro w hSw; (try dsimp only at hSw); go_simp; try with_reducible rfl)
      change wpAnyH _ _ _ _ _ _ _ (Act.put _ (some 28) _) _
      simp only [Act.put, List.setIfInBounds_toArray, List.set_cons_zero, List.set_cons_succ]
      refine wpAnyH_take (i := 3) (v := ?_) rfl (by kernel_rfl) (by kernel_rfl) (by kernel_rfl) (fun _ _ _ h => h) (Or.inl ⟨by kernel_rfl, ?_⟩) hHeld ?_
      rotate_left
      · (intro w hSw; (try dsimp only at hSw); go_simp; try with_reducible rfl)
      change wpAnyH _ _ _ _ _ _ _ (Act.put _ (some 29) _) _
      simp only [Act.put, List.setIfInBounds_toArray, List.set_cons_zero, List.set_cons_succ]
      refine wpAnyH_take (i := 5) (v := ?_) rfl (by kernel_rfl) (by kernel_rfl) (by kernel_rfl) (fun _ _ _ h => h) (Or.inl ⟨by kernel_rfl, ?_⟩) hHeld ?_
      rotate_left
      · (intro w hSw; (try dsimp only at hSw); go_simp; try with_reducible rfl)
      change wpAnyH _ _ _ _ _ _ _ (Act.put _ (some 31) _) _
      simp only [Act.put, List.setIfInBounds_toArray, List.set_cons_zero, List.set_cons_succ]
      refine wpAnyH_take (i := 6) (v := ?_) rfl (by kernel_rfl) (by kernel_rfl) (by kernel_rfl) (fun _ _ _ h => h) (Or.inl ⟨by kernel_rfl, ?_⟩) hHeld ?_
      rotate_left
      · (intro w hSw; (try dsimp only at hSw); go_simp; try with_reducible rfl)
      change wpAnyH _ _ _ _ _ _ _ (Act.put _ (some 32) _) _
      simp only [Act.put, List.setIfInBounds_toArray, List.set_cons_zero, List.set_cons_succ]
      refine wpAnyH_take (i := 7) (v := ?_) rfl (by kernel_rfl) (by kernel_rfl) (by kernel_rfl) (fun _ _ _ h => h) (Or.inl ⟨by kernel_rfl, ?_⟩) hHeld ?_
      rotate_left
      · (intro w hSw; (try dsimp only at hSw); go_simp; try with_reducible rfl)
      change wpAnyH _ _ _ _ _ _ _ (Act.put _ (some 33) _) _
      simp only [Act.put, List.setIfInBounds_toArray, List.set_cons_zero, List.set_cons_succ]
      refine wpAnyH_take (i := 8) (v := ?_) rfl (by kernel_rfl) (by kernel_rfl) (by kernel_rfl) (fun _ _ _ h => h) (Or.inl ⟨by kernel_rfl, ?_⟩) hHeld ?_
      rotate_left
      · (intro w hSw; (try dsimp only at hSw); go_simp; try with_reducible rfl)
      change wpAnyH _ _ _ _ _ _ _ (Act.put _ (some 34) _) _
      simp only [Act.put, List.setIfInBounds_toArray, List.set_cons_zero, List.set_cons_succ]
      refine wpAnyH_ready (rs := [4, 9]) (by kernel_rfl) (by simp) ?_
      refine AllReadyH.cons rfl (fun K hK => ?_) (AllReadyH.cons rfl (fun K hK => ?_) AllReadyH.nil)
      · go_simp
        refine hK.out _ _ trivial (fun hHeld2 => ?_)
        clear hK K hHeld
        have hHeld := hHeld2; clear hHeld2
        try simp only [Act.put, List.setIfInBounds_toArray, List.set_cons_zero, List.set_cons_succ]
        refine wpAnyH_ready (rs := [9]) (by kernel_rfl) (by simp) ?_
        refine AllReadyH.cons rfl (fun K hK => ?_) AllReadyH.nil
        go_simp
        refine hK.out _ _ trivial (fun hHeld2 => ?_)
        clear hK K hHeld
        have hHeld := hHeld2; clear hHeld2
        try simp only [Act.put, List.setIfInBounds_toArray, List.set_cons_zero, List.set_cons_succ]
        refine wpAnyH_ready (rs := [10]) (by kernel_rfl) (by simp) ?_
        refine AllReadyH.cons rfl (fun K hK => ?_) AllReadyH.nil
        go_simp
        refine hK.out _ _ trivial (fun hHeld2 => ?_)
        clear hK K hHeld
        have hHeld := hHeld2; clear hHeld2
        try simp only [Act.put, List.setIfInBounds_toArray, List.set_cons_zero, List.set_cons_succ]
        refine wpAnyH_ready (rs := [11]) (by kernel_rfl) (by simp) ?_
        refine AllReadyH.cons rfl (fun K hK => ?_) AllReadyH.nil
        go_simp
        refine (delete_any hn (show World.ownsRow w5.drew _ _ _ _ _ _ from HW.out) hi (Nat.le_refl _) (by omega)).mono ?_
        rintro e w6 ⟨rfl, hw6, o6⟩
        have bg6 := o6.blk (show Blk w5.drew g 66 _ from HBb.out) (fun h => by exact HNE.out (by simpa [Value.ownBlock, eq_comm] using h))
        obtain ⟨q0, q1, ql⟩ := bg6.facts2
        have fr6 := bg6.frozen 1
        have HW6 := Lib.hid hw6
        have HO6 := Lib.hid o6
        have HB6 := Lib.hid bg6
        clear hw6 o6 bg6
        refine hK.out _ _ trivial (fun hHeld2 => ?_)
        clear hK K hHeld
        have hHeld := hHeld2; clear hHeld2
        try simp only [Act.put, List.setIfInBounds_toArray, List.set_cons_zero, List.set_cons_succ]
        refine wpAnyH_take (i := 12) (v := ?_) rfl (by kernel_rfl) (by kernel_rfl) (by kernel_rfl) (fun _ _ _ h => h) (Or.inl ⟨by kernel_rfl, ?_⟩) hHeld ?_
        rotate_left
        · (intro w hSw; (try dsimp only at hSw); go_simp; try with_reducible rfl)
        change wpAnyH _ _ _ _ _ _ _ (Act.put _ (some 38) _) _
        simp only [Act.put, List.setIfInBounds_toArray, List.set_cons_zero, List.set_cons_succ]
        refine wpAnyH_take (i := 13) (v := ?_) rfl (by kernel_rfl) (by kernel_rfl) (by kernel_rfl) (fun _ _ _ h => h) (Or.inl ⟨by kernel_rfl, ?_⟩) hHeld ?_
        rotate_left
        · (intro w hSw; (try dsimp only at hSw); go_simp; try with_reducible rfl)
        change wpAnyH _ _ _ _ _ _ _ (Act.put _ (some 39) _) _
        simp only [Act.put, List.setIfInBounds_toArray, List.set_cons_zero, List.set_cons_succ]
        refine wpAnyH_ready (rs := [14]) (by kernel_rfl) (by simp) ?_
        refine AllReadyH.cons rfl (fun K hK => ?_) AllReadyH.nil
        go_simp
        refine hK.out _ _ trivial (fun hHeld2 => ?_)
        clear hK K hHeld
        have hHeld := hHeld2; clear hHeld2
        try simp only [Act.put, List.setIfInBounds_toArray, List.set_cons_zero, List.set_cons_succ]
        refine wpAnyH_done (by kernel_rfl) ?_ _
        go_wp2_with (fail)
        go_ret
        rw [HCE.out]
        have q := back_fin hn HT.out HO.out.drew HLT.out hgl HV.out.drew HB6.out HW6.out HO6.out (by omega) (by omega)
        exact ⟨v, rfl, q⟩
      · go_simp
        refine hK.out _ _ trivial (fun hHeld2 => ?_)
        clear hK K hHeld
        have hHeld := hHeld2; clear hHeld2
        try simp only [Act.put, List.setIfInBounds_toArray, List.set_cons_zero, List.set_cons_succ]
        refine wpAnyH_ready (rs := [4, 10]) (by kernel_rfl) (by simp) ?_
        refine AllReadyH.cons rfl (fun K hK => ?_) (AllReadyH.cons rfl (fun K hK => ?_) AllReadyH.nil)
        · go_simp
          refine hK.out _ _ trivial (fun hHeld2 => ?_)
          clear hK K hHeld
          have hHeld := hHeld2; clear hHeld2
          try simp only [Act.put, List.setIfInBounds_toArray, List.set_cons_zero, List.set_cons_succ]
          refine wpAnyH_ready (rs := [10]) (by kernel_rfl) (by simp) ?_
          refine AllReadyH.cons rfl (fun K hK => ?_) AllReadyH.nil
          go_simp
          refine hK.out _ _ trivial (fun hHeld2 => ?_)
          clear hK K hHeld
          have hHeld := hHeld2; clear hHeld2
          try simp only [Act.put, List.setIfInBounds_toArray, List.set_cons_zero, List.set_cons_succ]
          refine wpAnyH_ready (rs := [11]) (by kernel_rfl) (by simp) ?_
          refine AllReadyH.cons rfl (fun K hK => ?_) AllReadyH.nil
          go_simp
          refine (delete_any hn (show World.ownsRow w5.drew _ _ _ _ _ _ from HW.out) hi (Nat.le_refl _) (by omega)).mono ?_
          rintro e w6 ⟨rfl, hw6, o6⟩
          have bg6 := o6.blk (show Blk w5.drew g 66 _ from HBb.out) (fun h => by exact HNE.out (by simpa [Value.ownBlock, eq_comm] using h))
          obtain ⟨q0, q1, ql⟩ := bg6.facts2
          have fr6 := bg6.frozen 1
          have HW6 := Lib.hid hw6
          have HO6 := Lib.hid o6
          have HB6 := Lib.hid bg6
          clear hw6 o6 bg6
          refine hK.out _ _ trivial (fun hHeld2 => ?_)
          clear hK K hHeld
          have hHeld := hHeld2; clear hHeld2
          try simp only [Act.put, List.setIfInBounds_toArray, List.set_cons_zero, List.set_cons_succ]
          refine wpAnyH_take (i := 12) (v := ?_) rfl (by kernel_rfl) (by kernel_rfl) (by kernel_rfl) (fun _ _ _ h => h) (Or.inl ⟨by kernel_rfl, ?_⟩) hHeld ?_
          rotate_left
          · (intro w hSw; (try dsimp only at hSw); go_simp; try with_reducible rfl)
          change wpAnyH _ _ _ _ _ _ _ (Act.put _ (some 38) _) _
          simp only [Act.put, List.setIfInBounds_toArray, List.set_cons_zero, List.set_cons_succ]
          refine wpAnyH_take (i := 13) (v := ?_) rfl (by kernel_rfl) (by kernel_rfl) (by kernel_rfl) (fun _ _ _ h => h) (Or.inl ⟨by kernel_rfl, ?_⟩) hHeld ?_
          rotate_left
          · (intro w hSw; (try dsimp only at hSw); go_simp; try with_reducible rfl)
          change wpAnyH _ _ _ _ _ _ _ (Act.put _ (some 39) _) _
          simp only [Act.put, List.setIfInBounds_toArray, List.set_cons_zero, List.set_cons_succ]
          refine wpAnyH_ready (rs := [14]) (by kernel_rfl) (by simp) ?_
          refine AllReadyH.cons rfl (fun K hK => ?_) AllReadyH.nil
          go_simp
          refine hK.out _ _ trivial (fun hHeld2 => ?_)
          clear hK K hHeld
          have hHeld := hHeld2; clear hHeld2
          try simp only [Act.put, List.setIfInBounds_toArray, List.set_cons_zero, List.set_cons_succ]
          refine wpAnyH_done (by kernel_rfl) ?_ _
          go_wp2_with (fail)
          go_ret
          rw [HCE.out]
          have q := back_fin hn HT.out HO.out.drew HLT.out hgl HV.out.drew HB6.out HW6.out HO6.out (by omega) (by omega)
          exact ⟨v, rfl, q⟩
        · go_simp
          refine hK.out _ _ trivial (fun hHeld2 => ?_)
          clear hK K hHeld
          have hHeld := hHeld2; clear hHeld2
          try simp only [Act.put, List.setIfInBounds_toArray, List.set_cons_zero, List.set_cons_succ]
          refine wpAnyH_ready (rs := [4]) (by kernel_rfl) (by simp) ?_
          refine AllReadyH.cons rfl (fun K hK => ?_) AllReadyH.nil
          go_simp
          refine hK.out _ _ trivial (fun hHeld2 => ?_)
          clear hK K hHeld
          have hHeld := hHeld2; clear hHeld2
          try simp only [Act.put, List.setIfInBounds_toArray, List.set_cons_zero, List.set_cons_succ]
          refine wpAnyH_ready (rs := [11]) (by kernel_rfl) (by simp) ?_
          refine AllReadyH.cons rfl (fun K hK => ?_) AllReadyH.nil
          go_simp
          refine (delete_any hn (show World.ownsRow w5.drew _ _ _ _ _ _ from HW.out) hi (Nat.le_refl _) (by omega)).mono ?_
          rintro e w6 ⟨rfl, hw6, o6⟩
          have bg6 := o6.blk (show Blk w5.drew g 66 _ from HBb.out) (fun h => by exact HNE.out (by simpa [Value.ownBlock, eq_comm] using h))
          obtain ⟨q0, q1, ql⟩ := bg6.facts2
          have fr6 := bg6.frozen 1
          have HW6 := Lib.hid hw6
          have HO6 := Lib.hid o6
          have HB6 := Lib.hid bg6
          clear hw6 o6 bg6
          refine hK.out _ _ trivial (fun hHeld2 => ?_)
          clear hK K hHeld
          have hHeld := hHeld2; clear hHeld2
          try simp only [Act.put, List.setIfInBounds_toArray, List.set_cons_zero, List.set_cons_succ]
          refine wpAnyH_take (i := 12) (v := ?_) rfl (by kernel_rfl) (by kernel_rfl) (by kernel_rfl) (fun _ _ _ h => h) (Or.inl ⟨by kernel_rfl, ?_⟩) hHeld ?_
          rotate_left
          · (intro w hSw; (try dsimp only at hSw); go_simp; try with_reducible rfl)
          change wpAnyH _ _ _ _ _ _ _ (Act.put _ (some 38) _) _
          simp only [Act.put, List.setIfInBounds_toArray, List.set_cons_zero, List.set_cons_succ]
          refine wpAnyH_take (i := 13) (v := ?_) rfl (by kernel_rfl) (by kernel_rfl) (by kernel_rfl) (fun _ _ _ h => h) (Or.inl ⟨by kernel_rfl, ?_⟩) hHeld ?_
          rotate_left
          · (intro w hSw; (try dsimp only at hSw); go_simp; try with_reducible rfl)
          change wpAnyH _ _ _ _ _ _ _ (Act.put _ (some 39) _) _
          simp only [Act.put, List.setIfInBounds_toArray, List.set_cons_zero, List.set_cons_succ]
          refine wpAnyH_ready (rs := [14]) (by kernel_rfl) (by simp) ?_
          refine AllReadyH.cons rfl (fun K hK => ?_) AllReadyH.nil
          go_simp
          refine hK.out _ _ trivial (fun hHeld2 => ?_)
          clear hK K hHeld
          have hHeld := hHeld2; clear hHeld2
          try simp only [Act.put, List.setIfInBounds_toArray, List.set_cons_zero, List.set_cons_succ]
          refine wpAnyH_done (by kernel_rfl) ?_ _
          go_wp2_with (fail)
          go_ret
          rw [HCE.out]
          have q := back_fin hn HT.out HO.out.drew HLT.out hgl HV.out.drew HB6.out HW6.out HO6.out (by omega) (by omega)
          exact ⟨v, rfl, q⟩

end Go.Proofs.Ytcggeogpanackaa
