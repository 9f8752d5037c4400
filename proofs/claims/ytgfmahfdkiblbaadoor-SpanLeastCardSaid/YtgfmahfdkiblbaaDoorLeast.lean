/- SpanLeast: the law's own walk. -/
import Derived.Test.YtgfmahfdkiblbaaDoorMin
namespace Go.Proofs.YtgfmahfdkiblbaaDoor
open Go.RowKit Go.Kx
set_option maxRecDepth 20000

theorem eq_times2 (a b c d : Int) (W : World) : (binOp .eql 23 (.agg #[.int .i64 a, .int .i64 b]) (.agg #[.int .i64 c, .int .i64 d])).run Tryd.prog W = .ok (.bool (decide (a = c) && decide (b = d))) W := by
  rw [eq_times]; simp
/-- is the least of L never, or among its first k? -/
def thB (L : List Tm) (k : Nat) : Bool := (decide ((minT L).1 = 1) && decide ((minT L).2 = 0)) || (L.take k).any fun t => (decide (t.1 = (minT L).1) && decide (t.2 = (minT L).2))
theorem thB_start (L : List Tm) : (decide ((minT L).1 = 1) && decide ((minT L).2 = 0)) = thB L 0 := by simp [thB]
theorem thB_succ {L : List Tm} {k : Nat} {t : Tm} (h : L[k]? = some t) : thB L (k + 1) = (thB L k || (decide (t.1 = (minT L).1) && decide (t.2 = (minT L).2))) := by
  obtain ⟨hk, rfl⟩ := List.getElem?_eq_some_iff.1 h
  unfold thB
  rw [take_succ_tm hk, List.any_append]
  simp [Bool.or_assoc]
theorem thB_all (L : List Tm) : thB L L.length = true := by
  unfold thB
  rw [List.take_length]
  rcases (minT_right L).2 with h | h
  · rw [h]; rfl
  · rw [Bool.or_eq_true]
    exact .inr (List.any_eq_true.2 ⟨_, h, by simp⟩)

theorem least_many {A : Option Addr} {cap : Nat} {L : List Tm} {w : World} (hl : 1000 < L.length) (hlen : L.length ≤ 9223372036854775807) :
    Calls Tryd.prog 6 #[.slice A L.length cap] w fun e w' => e = .returned (.bool true) ∧ Only [] w w' := by
  have hg : decide ((1000 : Int) < (L.length : Int)) = true := by simp; omega
  go_enter Tryd.func6, Tryd.ntmps6
  go_wp2_with (fail)
  refine (awake_any _).mono ?_
  rintro e w1 ⟨rfl, o1⟩
  have O1 := Lib.hid o1
  clear o1
  go_wp2_with (fail)
  refine (awake_any _).mono ?_
  rintro e w2 ⟨rfl, o2⟩
  go_wp2_with (fail)
  go_ret
  exact ⟨rfl, O1.out.trans o2 (by simp)⟩

set_option maxHeartbeats 4000000 in
theorem least_few {A : Option Addr} {cap : Nat} {L : List Tm} {w : World} (hL : Times w A L) (hl : L.length ≤ 1000) :
    Calls Tryd.prog 6 #[.slice A L.length cap] w fun e w' => e = .returned (.bool true) ∧ Only [] w w' := by
  have hmo : (minT L).ok := minT_ok fun t ht => by
    obtain ⟨i, hi⟩ := List.getElem?_of_mem ht
    exact (hL i t hi).1
  have hmr := Lib.hid (minT_right L).1
  have hle : ∀ t ∈ L, t.right = true → cmpT (minT L) t ≤ 0 := minT_le fun t ht => by
    obtain ⟨i, hi⟩ := List.getElem?_of_mem ht
    exact (hL i t hi).1
  have HLE := Lib.hid hle
  have HL := Lib.hid hL
  have hEQ := eq_times2
  clear hL hle
  have hg : decide ((1000 : Int) < (L.length : Int)) = false := by simp; omega
  go_enter Tryd.func6, Tryd.ntmps6
  go_wp2_with (fail)
  refine (awake_any _).mono ?_
  rintro e w1 ⟨rfl, o1⟩
  have O1 := Lib.hid o1
  clear o1
  go_wp2_with (fail)
  refine (min_any (HL.out.only O1.out) (by omega)).mono ?_
  rintro e w2 ⟨rfl, o2⟩
  have O2 := Lib.hid (O1.out.trans o2 (by simp))
  clear o2 O1
  go_wp2_with (fail)
  have M2 := Lib.hid (Blk.new w2 23 #[.int .i64 (minT L).1, .int .i64 (minT L).2])
  go_region_held3 (fun w' => w'.cell? ⟨w2.heap.size, 0, none⟩ = some (.int .i64 (minT L).1) ∧ w'.cell? ⟨w2.heap.size, 1, none⟩ = some (.int .i64 (minT L).2)) (first | (go_keep; done) | (refine ⟨?_, ?_⟩ <;> (go_simp; done)))
    (first | (go_at_call 22; refine (never_any _).mono ?_; rintro e w3 ⟨rfl, o3⟩; have m3 := o3.blk (t := 23) (cs := #[.int .i64 (minT L).1, .int .i64 (minT L).2]) (g := w2.heap.size) (by first | exact M2.out | exact Blk.drewN M2.out _ | exact Blk.drew M2.out) (by simp); obtain ⟨m30, m31, m3l⟩ := m3.facts2; have M3 := Lib.hid m3; have O3 := Lib.hid o3; clear m3 o3))
  go_wp2_with (fail)
  have o3 : Only [] w w3 := by first | exact (O2.out.alloc _).trans O3.out (by simp) | exact (O2.out.alloc _).drew.trans O3.out (by simp) | exact ((O2.out.alloc _).drewN _).trans O3.out (by simp)
  have O4 := Lib.hid o3
  clear o3 m30 m31 O3
  simp only [thB_start]
  go_loopw [4, 5] (fun th i wr => ∃ k : Nat, i = .int .i64 k ∧ th = .bool (thB L k) ∧ k ≤ L.length ∧ Blk wr w2.heap.size 23 #[.int .i64 (minT L).1, .int .i64 (minT L).2] ∧ Only [] w wr) (fun _ i _ => L.length - (intOf i).toNat)
  case atStart => exact ⟨0, rfl, rfl, Nat.zero_le _, M3.out, O4.out⟩
  case round =>
    obtain ⟨k, rfl, rfl, hk, hm, ho⟩ := hrel
    clear M2 M3 O4 O2
    by_cases hlt : k < L.length
    · obtain ⟨t, ht⟩ : ∃ t, L[k]? = some t := ⟨_, List.getElem?_eq_getElem hlt⟩
      obtain ⟨hok, b, o, rfl, hb, c0, c1⟩ := (HL.out.only ho) k t ht
      have hle := HLE.out t (List.mem_of_getElem? ht)
      have HT := Lib.hid ht
      clear ht
      obtain ⟨m0, m1, ml⟩ := hm.facts2
      have HM := Lib.hid hm
      have HO := Lib.hid ho
      clear hm ho
      by_cases rt : rightB t.1 t.2 = true
      · have hc' : decide (0 < cmpT (minT L) t) = false := by have := hle rt; simp; omega
        have RT := Lib.hid rt
        clear hle
        go_wp2_with (fail)
        have rt := RT.out
        go_region_held3 (fun w' => w'.cell? ⟨w2.heap.size, 0, none⟩ = some (.int .i64 (minT L).1) ∧ w'.cell? ⟨w2.heap.size, 1, none⟩ = some (.int .i64 (minT L).2) ∧ w'.cell? ⟨b, o + k * 2, none⟩ = some (.int .i64 t.1) ∧ w'.cell? ⟨b, o + k * 2 + 1, none⟩ = some (.int .i64 t.2)) (first | (go_keep; done) | (refine ⟨?_, ?_, ?_, ?_⟩ <;> (go_simp; done)))
          (first
          | (go_at_call 14; refine (right_t hok.1 hok.2 rt _).mono ?_; rintro e w4 ⟨rfl, o4⟩; have m4 := o4.blk (t := 23) (cs := #[.int .i64 (minT L).1, .int .i64 (minT L).2]) (g := w2.heap.size) (by first | exact HM.out | exact Blk.drewN HM.out _ | exact Blk.drew HM.out) (by simp); obtain ⟨m40, m41, m4l⟩ := m4.facts2; have e40 := (o4.cell (p := ⟨b, o + k * 2, none⟩) hb (by simp)).trans c0; have e41 := (o4.cell (p := ⟨b, o + k * 2 + 1, none⟩) hb (by simp)).trans c1; have b4 : b < w4.heap.size := Nat.lt_of_lt_of_le hb o4.size; have M4 := Lib.hid m4; have O4 := Lib.hid o4; clear m4 o4)
          | (go_at_call 16; refine (cmp_any (minT L) t hmo hok _).mono ?_; rintro e w5 ⟨rfl, o5⟩; have m5 := o5.blk (t := 23) (cs := #[.int .i64 (minT L).1, .int .i64 (minT L).2]) (g := w2.heap.size) (by first | exact M4.out | exact Blk.drewN M4.out _ | exact Blk.drew M4.out) (by simp); obtain ⟨m50, m51, m5l⟩ := m5.facts2; have e50 := (o5.cell (p := ⟨b, o + k * 2, none⟩) b4 (by simp)).trans e40; have e51 := (o5.cell (p := ⟨b, o + k * 2 + 1, none⟩) b4 (by simp)).trans e41; have b5 : b < w5.heap.size := Nat.lt_of_lt_of_le b4 o5.size; have M5 := Lib.hid m5; have O5 := Lib.hid o5; clear m5 o5))
        go_wp2_with (fail)
        have oo := (HO.out.drew.trans O4.out (by simp)).trans O5.out (by simp)
        have MN := Lib.hid M5.out
        have OO := Lib.hid oo
        clear oo
        by_cases ht : thB L k = true
        · simp only [ht]
          go_quiet (fail)
          go_wp2_with (fail)
          go_roundw
          case rel => exact ⟨k + 1, by go_num, by rw [thB_succ HT.out, ht]; rfl, by omega, MN.out.drewN _, OO.out.drewN _⟩
          case measure => simp [intOf]; omega
        · have ht' : thB L k = false := by simpa using ht
          simp only [ht']
          go_quiet (fail)
          go_wp2_with (fail)
          go_roundw
          case rel => exact ⟨k + 1, by go_num, by rw [thB_succ HT.out, ht']; rfl, by omega, MN.out.drewN _, OO.out.drewN _⟩
          case measure => simp [intOf]; omega
      · have rt : rightB t.1 t.2 = false := by simpa using rt
        clear hle
        go_wp2_with (fail)
        refine wp_region_held_drew (S := (fun w' => w'.cell? ⟨w2.heap.size, 0, none⟩ = some (.int .i64 (minT L).1) ∧ w'.cell? ⟨w2.heap.size, 1, none⟩ = some (.int .i64 (minT L).2) ∧ w'.cell? ⟨b, o + k * 2, none⟩ = some (.int .i64 t.1) ∧ w'.cell? ⟨b, o + k * 2 + 1, none⟩ = some (.int .i64 t.2))) (by kernel_rfl) ?_ (fun hHeld => ?_)
        · first | (go_keep; done) | (refine ⟨?_, ?_, ?_, ?_⟩ <;> (go_simp; done))
        refine wpAnyH_take (i := 0) (v := ?_) rfl (by kernel_rfl) (by kernel_rfl) (by kernel_rfl) (fun _ _ _ h => h) (Or.inl ⟨by kernel_rfl, ?_⟩) hHeld ?_
        rotate_left
        · (intro w hSw; (try dsimp only at hSw); go_simp; try with_reducible rfl)
        change wpAnyH _ _ _ _ _ _ _ (Act.put _ (some 25) _) _
        simp only [Act.put, List.setIfInBounds_toArray, List.set_cons_zero, List.set_cons_succ]
        refine wpAnyH_take (i := 1) (v := ?_) rfl (by kernel_rfl) (by kernel_rfl) (by kernel_rfl) (fun _ _ _ h => h) (Or.inl ⟨by kernel_rfl, ?_⟩) hHeld ?_
        rotate_left
        · (intro w hSw; (try dsimp only at hSw); go_simp; try with_reducible rfl)
        change wpAnyH _ _ _ _ _ _ _ (Act.put _ (some 26) _) _
        simp only [Act.put, List.setIfInBounds_toArray, List.set_cons_zero, List.set_cons_succ]
        refine wpAnyH_take (i := 2) (v := ?_) rfl (by kernel_rfl) (by kernel_rfl) (by kernel_rfl) (fun _ _ _ h => h) (Or.inl ⟨by kernel_rfl, ?_⟩) hHeld ?_
        rotate_left
        · (intro w hSw; (try dsimp only at hSw); go_simp; try with_reducible rfl)
        change wpAnyH _ _ _ _ _ _ _ (Act.put _ (some 27) _) _
        simp only [Act.put, List.setIfInBounds_toArray, List.set_cons_zero, List.set_cons_succ]
        refine wpAnyH_take (i := 3) (v := ?_) rfl (by kernel_rfl) (by kernel_rfl) (by kernel_rfl) (fun _ _ _ h => h) (Or.inl ⟨by kernel_rfl, ?_⟩) hHeld ?_
        rotate_left
        · (intro w hSw; (try dsimp only at hSw); go_simp; try with_reducible rfl)
        change wpAnyH _ _ _ _ _ _ _ (Act.put _ (some 28) _) _
        simp only [Act.put, List.setIfInBounds_toArray, List.set_cons_zero, List.set_cons_succ]
        refine wpAnyH_ready (rs := [4]) (by kernel_rfl) (by simp) ?_
        refine AllReadyH.cons rfl (fun K hK => ?_) AllReadyH.nil
        go_simp
        refine (right_f hok.1 hok.2 rt _).mono ?_
        rintro e w4 ⟨rfl, o4⟩
        have m4 := o4.blk (t := 23) (cs := #[.int .i64 (minT L).1, .int .i64 (minT L).2]) (g := w2.heap.size) (by first | exact HM.out | exact Blk.drewN HM.out _ | exact Blk.drew HM.out) (by simp)
        obtain ⟨m40, m41, m4l⟩ := m4.facts2
        have e40 := (o4.cell (p := ⟨b, o + k * 2, none⟩) hb (by simp)).trans c0
        have e41 := (o4.cell (p := ⟨b, o + k * 2 + 1, none⟩) hb (by simp)).trans c1
        have b4 : b < w4.heap.size := Nat.lt_of_lt_of_le hb o4.size
        have M4 := Lib.hid m4
        have O4 := Lib.hid o4
        clear m4 o4
        refine hK.out _ _ ?_ (fun hHeld2 => ?_)
        · first | (go_keep; done) | (refine ⟨?_, ?_, ?_, ?_⟩ <;> (go_simp; done))
        clear hK K hHeld
        have hHeld := hHeld2; clear hHeld2
        try simp only [Act.put, List.setIfInBounds_toArray, List.set_cons_zero, List.set_cons_succ]
        refine wpAnyH_take (i := 5) (v := ?_) rfl (by kernel_rfl) (by kernel_rfl) (by kernel_rfl) (fun _ _ _ h => h) (Or.inl ⟨by kernel_rfl, ?_⟩) hHeld ?_
        rotate_left
        · (intro w hSw; (try dsimp only at hSw); go_simp; try with_reducible rfl)
        change wpAnyH _ _ _ _ _ _ _ (Act.put _ (some 30) _) _
        simp only [Act.put, List.setIfInBounds_toArray, List.set_cons_zero, List.set_cons_succ]
        refine wpAnyH_take (i := 6) (v := undef) rfl (by kernel_rfl) (by kernel_rfl) (by kernel_rfl) (fun _ _ _ h => h) (Or.inr ⟨by kernel_rfl, rfl⟩) hHeld ?_
        change wpAnyH _ _ _ _ _ _ _ (Act.put _ (some 31) _) _
        simp only [Act.put, List.setIfInBounds_toArray, List.set_cons_zero, List.set_cons_succ]
        refine wpAnyH_take (i := 7) (v := undef) rfl (by kernel_rfl) (by kernel_rfl) (by kernel_rfl) (fun _ _ _ h => h) (Or.inr ⟨by kernel_rfl, rfl⟩) hHeld ?_
        change wpAnyH _ _ _ _ _ _ _ (Act.put _ (some 32) _) _
        simp only [Act.put, List.setIfInBounds_toArray, List.set_cons_zero, List.set_cons_succ]
        refine wpAnyH_take (i := 8) (v := undef) rfl (by kernel_rfl) (by kernel_rfl) (by kernel_rfl) (fun _ _ _ h => h) (Or.inr ⟨by kernel_rfl, rfl⟩) hHeld ?_
        change wpAnyH _ _ _ _ _ _ _ (Act.put _ (some 33) _) _
        simp only [Act.put, List.setIfInBounds_toArray, List.set_cons_zero, List.set_cons_succ]
        refine wpAnyH_take (i := 9) (v := undef) rfl (by kernel_rfl) (by kernel_rfl) (by kernel_rfl) (fun _ _ _ h => h) (Or.inr ⟨by kernel_rfl, rfl⟩) hHeld ?_
        change wpAnyH _ _ _ _ _ _ _ (Act.put _ (some 34) _) _
        simp only [Act.put, List.setIfInBounds_toArray, List.set_cons_zero, List.set_cons_succ]
        refine wpAnyH_take (i := 10) (v := undef) rfl (by kernel_rfl) (by kernel_rfl) (by kernel_rfl) (fun _ _ _ h => h) (Or.inr ⟨by kernel_rfl, rfl⟩) hHeld ?_
        change wpAnyH _ _ _ _ _ _ _ (Act.put _ (some 35) _) _
        simp only [Act.put, List.setIfInBounds_toArray, List.set_cons_zero, List.set_cons_succ]
        refine wpAnyH_take (i := 11) (v := undef) rfl (by kernel_rfl) (by kernel_rfl) (by kernel_rfl) (fun _ _ _ h => h) (Or.inr ⟨by kernel_rfl, rfl⟩) hHeld ?_
        change wpAnyH _ _ _ _ _ _ _ (Act.put _ (some 36) _) _
        simp only [Act.put, List.setIfInBounds_toArray, List.set_cons_zero, List.set_cons_succ]
        refine wpAnyH_take (i := 12) (v := undef) rfl (by kernel_rfl) (by kernel_rfl) (by kernel_rfl) (fun _ _ _ h => h) (Or.inr ⟨by kernel_rfl, rfl⟩) hHeld ?_
        change wpAnyH _ _ _ _ _ _ _ (Act.put _ (some 37) _) _
        simp only [Act.put, List.setIfInBounds_toArray, List.set_cons_zero, List.set_cons_succ]
        refine wpAnyH_take (i := 13) (v := ?_) rfl (by kernel_rfl) (by kernel_rfl) (by kernel_rfl) (fun _ _ _ h => h) (Or.inl ⟨by kernel_rfl, ?_⟩) hHeld ?_
        rotate_left
        · (intro w hSw; (try dsimp only at hSw); go_simp; try with_reducible rfl)
        change wpAnyH _ _ _ _ _ _ _ (Act.put _ (some 38) _) _
        simp only [Act.put, List.setIfInBounds_toArray, List.set_cons_zero, List.set_cons_succ]
        refine wpAnyH_done (by kernel_rfl) ?_ _
        go_wp2_with (fail)
        have oo := HO.out.drew.trans O4.out (by simp)
        have MN := Lib.hid M4.out
        have OO := Lib.hid oo
        clear oo
        by_cases ht : thB L k = true
        · simp only [ht]
          go_quiet (fail)
          go_wp2_with (fail)
          go_roundw
          case rel => exact ⟨k + 1, by go_num, by rw [thB_succ HT.out, ht]; rfl, by omega, MN.out.drewN _, OO.out.drewN _⟩
          case measure => simp [intOf]; omega
        · have ht' : thB L k = false := by simpa using ht
          simp only [ht']
          go_quiet (fail)
          go_wp2_with (fail)
          go_roundw
          case rel => exact ⟨k + 1, by go_num, by rw [thB_succ HT.out, ht']; rfl, by omega, MN.out.drewN _, OO.out.drewN _⟩
          case measure => simp [intOf]; omega
    · obtain rfl : k = L.length := by omega
      obtain ⟨m0, m1, ml⟩ := hm.facts2
      have HO := Lib.hid ho
      clear hm ho
      rw [thB_all]
      go_wp2_with (fail)
      refine (right_t hmo.1 hmo.2 hmr.out _).mono ?_
      rintro e w4 ⟨rfl, o4⟩
      go_wp2_with (fail)
      go_ret
      exact ⟨rfl, HO.out.trans o4 (by simp)⟩

theorem least_any {A : Option Addr} {cap : Nat} {L : List Tm} {w : World} (hL : Times w A L) (hlen : L.length ≤ 9223372036854775807) :
    Calls Tryd.prog 6 #[.slice A L.length cap] w fun e w' => e = .returned (.bool true) ∧ Only [] w w' := by
  rcases Nat.lt_or_ge 1000 L.length with h | h
  · exact least_many h hlen
  · exact least_few hL h

end Go.Proofs.YtgfmahfdkiblbaaDoor
