/- SpanMins: the law's own walk. -/
import Derived.Test.YtgfmahfdkiblbaaDoorSums
namespace Go.Proofs.YtgfmahfdkiblbaaDoor
open Go.RowKit Go.Kx
set_option maxRecDepth 20000

theorem mins_many {A : Option Addr} {cap : Nat} {L : List Tm} {w : World} (hl : 1000 < L.length) (hlen : L.length ≤ 9223372036854775807) :
    Calls Tryd.prog 5 #[.slice A L.length cap] w fun e w' => e = .returned (.bool true) ∧ Only [] w w' := by
  have hg : decide ((1000 : Int) < (L.length : Int)) = true := by simp; omega
  go_enter Tryd.func5, Tryd.ntmps5
  go_wp2_with (fail)
  refine (awake_any _).mono ?_
  rintro e w1 ⟨rfl, o1⟩
  go_wp2_with (fail)
  go_ret
  exact ⟨rfl, o1⟩

set_option maxHeartbeats 4000000 in
theorem mins_few {A : Option Addr} {cap : Nat} {L : List Tm} {w : World} (hL : Times w A L) (hl : L.length ≤ 1000) :
    Calls Tryd.prog 5 #[.slice A L.length cap] w fun e w' => e = .returned (.bool true) ∧ Only [] w w' := by
  have HL := Lib.hid hL
  clear hL
  have hg : decide ((1000 : Int) < (L.length : Int)) = false := by simp; omega
  go_enter Tryd.func5, Tryd.ntmps5
  go_wp2_with (fail)
  go_loopw [4] (fun i wr => ∃ k : Nat, i = .int .i64 k ∧ k ≤ L.length ∧ Blk wr w.heap.size 23 #[.int .i64 (minT (L.take k)).1, .int .i64 (minT (L.take k)).2] ∧ Only [] w wr) (fun i _ => L.length - (intOf i).toNat)
  case atStart => exact ⟨0, rfl, Nat.zero_le _, Blk.new _ _ _, (Only.refl [] w).alloc _⟩
  case round =>
    obtain ⟨k, rfl, hk, hm, ho⟩ := hrel
    by_cases hlt : k < L.length
    · obtain ⟨hok, b, o, rfl, hb, c0, c1⟩ := (HL.out.only ho) k L[k] (List.getElem?_eq_getElem hlt)
      have hmo := minT_take_ok (fun i t h => (HL.out i t h).1) k
      have hsn := minT_snoc (L.take k) L[k]
      rw [← take_succ_tm hlt] at hsn
      generalize L[k] = t at hok c0 c1 hsn
      generalize minT (L.take k) = m at hm hmo hsn
      obtain ⟨y, hy⟩ : ∃ y, cmpT t m = y := ⟨_, rfl⟩
      rw [hy] at hsn
      have hbl : b < wr.heap.size := hb
      have HC0 := Lib.hid c0
      have HC1 := Lib.hid c1
      have HY := Lib.hid hy
      have HS := Lib.hid hsn
      have HM := Lib.hid hm
      have HO := Lib.hid ho
      clear hsn hm ho hy c0 c1
      have hne : w.heap.size ≠ b ∨ True := .inr trivial
      clear hne
      by_cases rt : t.right = true
      · have RT := Lib.hid rt
        clear rt
        by_cases hy0 : y < 0
        · have hd : decide (y < 0) = true := by simpa using hy0
          go_wp2_with (fail)
          refine wp_region_facts 14 [] (fr := ?frtn) (tl := ?tltn) (fun i v wv => match i with
            | 0 => v = .slice (some ⟨b, o, none⟩) L.length cap
            | 1 => v = .int .i64 k
            | 2 => v = .pointer (some ⟨b, o + k * 2, none⟩)
            | 3 => v = .agg #[.int .i64 t.1, .int .i64 t.2]
            | 4 => v = .bool true
            | 5 => v = .bool true
            | 6 => v = .slice (some ⟨b, o, none⟩) L.length cap
            | 7 => v = .int .i64 k
            | 8 => v = .pointer (some ⟨b, o + k * 2, none⟩)
            | 9 => v = .agg #[.int .i64 t.1, .int .i64 t.2]
            | 10 => v = .agg #[.int .i64 m.1, .int .i64 m.2]
            | 11 => v = .int .i64 y
            | 12 => v = .bool true
            | 13 => v = .bool true
            | _ => True) (by kernel_rfl) (by kernel_rfl) (by kernel_rfl) (by kernel_rfl) (by decide) ?htltn ?hfrtn ?stabtn ?stepstn ?donetn
          case htltn => simp only [List.drop_succ_cons, List.drop_zero]; rfl
          case hfrtn => intro vals; simp only [putAll, dstAt, Act.put, List.getElem?_toArray, List.getElem?_cons_zero, List.getElem?_cons_succ, Option.bind_some, List.setIfInBounds_toArray, List.set_cons_zero, List.set_cons_succ]; rfl
          case stabtn =>
            intro i v wa wb h
            try dsimp only
            split <;> first | exact id | fail
          case stepstn =>
            refine ⟨?_, ?_, ?_, ?_, ?_, ?_, ?_, ?_, ?_, ?_, ?_, ?_, ?_, ?_, trivial⟩
            · intro vals wr hR hp K hK
              dsimp only at hK ⊢
              clear hp
              unfold RunsOp
              go_simp
              exact hK.out _ _ ⟨_, rfl, Only.refl _ _, rfl⟩
            · intro vals wr hR hp K hK
              dsimp only at hK ⊢
              clear hp
              unfold RunsOp
              go_simp
              exact hK.out _ _ ⟨_, rfl, Only.refl _ _, rfl⟩
            · intro vals wr hR hp K hK
              dsimp only at hK ⊢
              obtain ⟨p0, p1, -⟩ := hp
              replace p0 := p0 rfl
              replace p1 := p1 rfl
              dsimp only at p0 p1
              rw [p0, p1] at hK ⊢
              clear p0 p1
              unfold RunsOp
              go_simp
              exact hK.out _ _ ⟨_, rfl, Only.refl _ _, rfl⟩
            · intro vals wr hR hp K hK
              dsimp only at hK ⊢
              obtain ⟨p2, -⟩ := hp
              replace p2 := p2 rfl
              dsimp only at p2
              rw [p2] at hK ⊢
              clear p2
              unfold RunsOp
              have c0 := (hR.cell (p := ⟨b, o + k * 2, none⟩) hbl (by simp)).trans HC0.out
              have c1 := (hR.cell (p := ⟨b, o + k * 2 + 1, none⟩) hbl (by simp)).trans HC1.out
              go_simp
              exact hK.out _ _ ⟨_, rfl, Only.refl _ _, rfl⟩
            · intro vals wr hR hp K hK
              dsimp only at hK ⊢
              obtain ⟨p3, -⟩ := hp
              replace p3 := p3 rfl
              dsimp only at p3
              rw [p3] at hK ⊢
              clear p3
              unfold RunsOp
              go_simp
              refine (refrightr hok RT.out _).mono ?_
              rintro e w2 ⟨rfl, o2⟩
              exact hK.out _ _ ⟨_, rfl, o2, rfl⟩
            · intro vals wr hR hp K hK
              dsimp only at hK ⊢
              obtain ⟨p4, -, -⟩ := hp
              replace p4 := p4 rfl
              dsimp only at p4
              obtain p4 := p4
              rw [p4] at hK ⊢
              clear p4
              unfold RunsOp
              go_simp
              exact hK.out _ _ ⟨_, rfl, Only.refl _ _, rfl⟩
            · intro vals wr hR hp K hK
              dsimp only at hK ⊢
              obtain ⟨p5, -⟩ := hp
              replace p5 := p5 rfl
              dsimp only at p5
              rw [p5] at hK ⊢
              clear p5
              unfold RunsOp
              go_simp
              exact hK.out _ _ ⟨_, rfl, Only.refl _ _, rfl⟩
            · intro vals wr hR hp K hK
              dsimp only at hK ⊢
              obtain ⟨p5, -⟩ := hp
              replace p5 := p5 rfl
              dsimp only at p5
              rw [p5] at hK ⊢
              clear p5
              unfold RunsOp
              go_simp
              exact hK.out _ _ ⟨_, rfl, Only.refl _ _, rfl⟩
            · intro vals wr hR hp K hK
              dsimp only at hK ⊢
              obtain ⟨p6, p7, p5, -⟩ := hp
              replace p6 := p6 rfl
              replace p7 := p7 rfl
              replace p5 := p5 rfl
              dsimp only at p6 p7 p5
              rw [p6, p7, p5] at hK ⊢
              clear p6 p7 p5
              unfold RunsOp
              go_simp
              exact hK.out _ _ ⟨_, rfl, Only.refl _ _, rfl⟩
            · intro vals wr hR hp K hK
              dsimp only at hK ⊢
              obtain ⟨p8, p5, -⟩ := hp
              replace p8 := p8 rfl
              replace p5 := p5 rfl
              dsimp only at p8 p5
              rw [p8, p5] at hK ⊢
              clear p8 p5
              unfold RunsOp
              have c0 := (hR.cell (p := ⟨b, o + k * 2, none⟩) hbl (by simp)).trans HC0.out
              have c1 := (hR.cell (p := ⟨b, o + k * 2 + 1, none⟩) hbl (by simp)).trans HC1.out
              go_simp
              exact hK.out _ _ ⟨_, rfl, Only.refl _ _, rfl⟩
            · intro vals wr hR hp K hK
              dsimp only at hK ⊢
              obtain ⟨p5, -⟩ := hp
              replace p5 := p5 rfl
              dsimp only at p5
              rw [p5] at hK ⊢
              clear p5
              unfold RunsOp
              have tb := hR.blk (Blk.drew HM.out) (by simp)
              obtain ⟨c0, c1, cl⟩ := tb.facts2
              clear tb
              go_simp
              exact hK.out _ _ ⟨_, rfl, Only.refl _ _, rfl⟩
            · intro vals wr hR hp K hK
              dsimp only at hK ⊢
              obtain ⟨p9, p10, p5, -, -⟩ := hp
              replace p9 := p9 rfl
              replace p10 := p10 rfl
              replace p5 := p5 rfl
              dsimp only at p9 p10 p5
              rw [p9, p10, p5] at hK ⊢
              clear p9 p10 p5
              unfold RunsOp
              go_simp
              refine (refcmpr t m hok hmo HY.out _).mono ?_
              rintro e w2 ⟨rfl, o2⟩
              exact hK.out _ _ ⟨_, rfl, o2, rfl⟩
            · intro vals wr hR hp K hK
              dsimp only at hK ⊢
              obtain ⟨p11, p5, -⟩ := hp
              replace p11 := p11 rfl
              replace p5 := p5 rfl
              dsimp only at p11 p5
              obtain p11 := p11
              rw [p11, p5] at hK ⊢
              clear p11 p5
              unfold RunsOp
              go_simp
              exact hK.out _ _ ⟨_, rfl, Only.refl _ _, rfl⟩
            · intro vals wr hR hp K hK
              dsimp only at hK ⊢
              obtain ⟨p5, p12, -⟩ := hp
              replace p5 := p5 rfl
              replace p12 := p12 rfl
              dsimp only at p5 p12
              rw [p5, p12] at hK ⊢
              clear p5 p12
              unfold RunsOp
              go_simp
              exact hK.out _ _ ⟨_, rfl, Only.refl _ _, rfl⟩
          case donetn =>
            intro vals wd hR hF
            have f13 : vals 13 = .bool true := hF 13 (by decide)
            rw [f13]
            have t0 := (hR.cell (p := ⟨b, o + k * 2, none⟩) hbl (by simp)).trans HC0.out
            have t1 := (hR.cell (p := ⟨b, o + k * 2 + 1, none⟩) hbl (by simp)).trans HC1.out
            have M9 := hR.blk (Blk.drew HM.out) (by simp)
            have fm0 := M9.frozen 0
            have fm1 := M9.frozen 1
            obtain ⟨m0, m1, ml⟩ := M9.facts2
            have HM9 := Lib.hid M9
            have HO9 := Lib.hid (HO.out.drew.trans hR (by simp))
            clear hF f13 hR M9
            refine wpList_nil ?_
            go_wp2_with (fail)
            go_roundw
            case rel =>
              refine ⟨k + 1, by go_num, by omega, ?_, (HO9.out.setCell (.inr (Nat.le_refl _)) _).setCell (.inr (Nat.le_refl _)) _⟩
              rw [HS.out, if_pos hy0]
              exact (HM9.out.set_ 0 _).set_ 1 _
            case measure => simp [intOf]; omega
        · have hd : decide (y < 0) = false := by simpa using hy0
          go_wp2_with (fail)
          refine wp_region_facts 14 [] (fr := ?frtp) (tl := ?tltp) (fun i v wv => match i with
            | 0 => v = .slice (some ⟨b, o, none⟩) L.length cap
            | 1 => v = .int .i64 k
            | 2 => v = .pointer (some ⟨b, o + k * 2, none⟩)
            | 3 => v = .agg #[.int .i64 t.1, .int .i64 t.2]
            | 4 => v = .bool true
            | 5 => v = .bool true
            | 6 => v = .slice (some ⟨b, o, none⟩) L.length cap
            | 7 => v = .int .i64 k
            | 8 => v = .pointer (some ⟨b, o + k * 2, none⟩)
            | 9 => v = .agg #[.int .i64 t.1, .int .i64 t.2]
            | 10 => v = .agg #[.int .i64 m.1, .int .i64 m.2]
            | 11 => v = .int .i64 y
            | 12 => v = .bool false
            | 13 => v = .bool false
            | _ => True) (by kernel_rfl) (by kernel_rfl) (by kernel_rfl) (by kernel_rfl) (by decide) ?htltp ?hfrtp ?stabtp ?stepstp ?donetp
          case htltp => simp only [List.drop_succ_cons, List.drop_zero]; rfl
          case hfrtp => intro vals; simp only [putAll, dstAt, Act.put, List.getElem?_toArray, List.getElem?_cons_zero, List.getElem?_cons_succ, Option.bind_some, List.setIfInBounds_toArray, List.set_cons_zero, List.set_cons_succ]; rfl
          case stabtp =>
            intro i v wa wb h
            try dsimp only
            split <;> first | exact id | fail
          case stepstp =>
            refine ⟨?_, ?_, ?_, ?_, ?_, ?_, ?_, ?_, ?_, ?_, ?_, ?_, ?_, ?_, trivial⟩
            · intro vals wr hR hp K hK
              dsimp only at hK ⊢
              clear hp
              unfold RunsOp
              go_simp
              exact hK.out _ _ ⟨_, rfl, Only.refl _ _, rfl⟩
            · intro vals wr hR hp K hK
              dsimp only at hK ⊢
              clear hp
              unfold RunsOp
              go_simp
              exact hK.out _ _ ⟨_, rfl, Only.refl _ _, rfl⟩
            · intro vals wr hR hp K hK
              dsimp only at hK ⊢
              obtain ⟨p0, p1, -⟩ := hp
              replace p0 := p0 rfl
              replace p1 := p1 rfl
              dsimp only at p0 p1
              rw [p0, p1] at hK ⊢
              clear p0 p1
              unfold RunsOp
              go_simp
              exact hK.out _ _ ⟨_, rfl, Only.refl _ _, rfl⟩
            · intro vals wr hR hp K hK
              dsimp only at hK ⊢
              obtain ⟨p2, -⟩ := hp
              replace p2 := p2 rfl
              dsimp only at p2
              rw [p2] at hK ⊢
              clear p2
              unfold RunsOp
              have c0 := (hR.cell (p := ⟨b, o + k * 2, none⟩) hbl (by simp)).trans HC0.out
              have c1 := (hR.cell (p := ⟨b, o + k * 2 + 1, none⟩) hbl (by simp)).trans HC1.out
              go_simp
              exact hK.out _ _ ⟨_, rfl, Only.refl _ _, rfl⟩
            · intro vals wr hR hp K hK
              dsimp only at hK ⊢
              obtain ⟨p3, -⟩ := hp
              replace p3 := p3 rfl
              dsimp only at p3
              rw [p3] at hK ⊢
              clear p3
              unfold RunsOp
              go_simp
              refine (refrightr hok RT.out _).mono ?_
              rintro e w2 ⟨rfl, o2⟩
              exact hK.out _ _ ⟨_, rfl, o2, rfl⟩
            · intro vals wr hR hp K hK
              dsimp only at hK ⊢
              obtain ⟨p4, -, -⟩ := hp
              replace p4 := p4 rfl
              dsimp only at p4
              obtain p4 := p4
              rw [p4] at hK ⊢
              clear p4
              unfold RunsOp
              go_simp
              exact hK.out _ _ ⟨_, rfl, Only.refl _ _, rfl⟩
            · intro vals wr hR hp K hK
              dsimp only at hK ⊢
              obtain ⟨p5, -⟩ := hp
              replace p5 := p5 rfl
              dsimp only at p5
              rw [p5] at hK ⊢
              clear p5
              unfold RunsOp
              go_simp
              exact hK.out _ _ ⟨_, rfl, Only.refl _ _, rfl⟩
            · intro vals wr hR hp K hK
              dsimp only at hK ⊢
              obtain ⟨p5, -⟩ := hp
              replace p5 := p5 rfl
              dsimp only at p5
              rw [p5] at hK ⊢
              clear p5
              unfold RunsOp
              go_simp
              exact hK.out _ _ ⟨_, rfl, Only.refl _ _, rfl⟩
            · intro vals wr hR hp K hK
              dsimp only at hK ⊢
              obtain ⟨p6, p7, p5, -⟩ := hp
              replace p6 := p6 rfl
              replace p7 := p7 rfl
              replace p5 := p5 rfl
              dsimp only at p6 p7 p5
              rw [p6, p7, p5] at hK ⊢
              clear p6 p7 p5
              unfold RunsOp
              go_simp
              exact hK.out _ _ ⟨_, rfl, Only.refl _ _, rfl⟩
            · intro vals wr hR hp K hK
              dsimp only at hK ⊢
              obtain ⟨p8, p5, -⟩ := hp
              replace p8 := p8 rfl
              replace p5 := p5 rfl
              dsimp only at p8 p5
              rw [p8, p5] at hK ⊢
              clear p8 p5
              unfold RunsOp
              have c0 := (hR.cell (p := ⟨b, o + k * 2, none⟩) hbl (by simp)).trans HC0.out
              have c1 := (hR.cell (p := ⟨b, o + k * 2 + 1, none⟩) hbl (by simp)).trans HC1.out
              go_simp
              exact hK.out _ _ ⟨_, rfl, Only.refl _ _, rfl⟩
            · intro vals wr hR hp K hK
              dsimp only at hK ⊢
              obtain ⟨p5, -⟩ := hp
              replace p5 := p5 rfl
              dsimp only at p5
              rw [p5] at hK ⊢
              clear p5
              unfold RunsOp
              have tb := hR.blk (Blk.drew HM.out) (by simp)
              obtain ⟨c0, c1, cl⟩ := tb.facts2
              clear tb
              go_simp
              exact hK.out _ _ ⟨_, rfl, Only.refl _ _, rfl⟩
            · intro vals wr hR hp K hK
              dsimp only at hK ⊢
              obtain ⟨p9, p10, p5, -, -⟩ := hp
              replace p9 := p9 rfl
              replace p10 := p10 rfl
              replace p5 := p5 rfl
              dsimp only at p9 p10 p5
              rw [p9, p10, p5] at hK ⊢
              clear p9 p10 p5
              unfold RunsOp
              go_simp
              refine (refcmpr t m hok hmo HY.out _).mono ?_
              rintro e w2 ⟨rfl, o2⟩
              exact hK.out _ _ ⟨_, rfl, o2, rfl⟩
            · intro vals wr hR hp K hK
              dsimp only at hK ⊢
              obtain ⟨p11, p5, -⟩ := hp
              replace p11 := p11 rfl
              replace p5 := p5 rfl
              dsimp only at p11 p5
              obtain p11 := p11
              rw [p11, p5] at hK ⊢
              clear p11 p5
              unfold RunsOp
              go_simp
              exact hK.out _ _ ⟨_, rfl, Only.refl _ _, rfl⟩
            · intro vals wr hR hp K hK
              dsimp only at hK ⊢
              obtain ⟨p5, p12, -⟩ := hp
              replace p5 := p5 rfl
              replace p12 := p12 rfl
              dsimp only at p5 p12
              rw [p5, p12] at hK ⊢
              clear p5 p12
              unfold RunsOp
              go_simp
              exact hK.out _ _ ⟨_, rfl, Only.refl _ _, rfl⟩
          case donetp =>
            intro vals wd hR hF
            have f13 : vals 13 = .bool false := hF 13 (by decide)
            rw [f13]
            have t0 := (hR.cell (p := ⟨b, o + k * 2, none⟩) hbl (by simp)).trans HC0.out
            have t1 := (hR.cell (p := ⟨b, o + k * 2 + 1, none⟩) hbl (by simp)).trans HC1.out
            have M9 := hR.blk (Blk.drew HM.out) (by simp)
            have fm0 := M9.frozen 0
            have fm1 := M9.frozen 1
            obtain ⟨m0, m1, ml⟩ := M9.facts2
            have HM9 := Lib.hid M9
            have HO9 := Lib.hid (HO.out.drew.trans hR (by simp))
            clear hF f13 hR M9
            refine wpList_nil ?_
            go_wp2_with (fail)
            go_roundw
            case rel =>
              refine ⟨k + 1, by go_num, by omega, ?_, HO9.out⟩
              rw [HS.out, if_neg (by omega)]
              exact HM9.out
            case measure => simp [intOf]; omega
      · have rt : t.right = false := by simpa using rt
        have hy0 : ¬ y < 0 := by
          have := HY.out
          rw [cmp_wrong_ (fun h => by rw [rt] at h; exact absurd h.1 (by simp))] at this
          omega
        have RT := Lib.hid rt
        clear rt
        go_wp2_with (fail)
        refine wp_region_facts 14 [] (fr := ?frfp) (tl := ?tlfp) (fun i v wv => match i with
          | 0 => v = .slice (some ⟨b, o, none⟩) L.length cap
          | 1 => v = .int .i64 k
          | 2 => v = .pointer (some ⟨b, o + k * 2, none⟩)
          | 3 => v = .agg #[.int .i64 t.1, .int .i64 t.2]
          | 4 => v = .bool false
          | 5 => v = .bool false
          | 6 => v = undef
          | 7 => v = undef
          | 8 => v = undef
          | 9 => v = undef
          | 10 => v = undef
          | 11 => v = undef
          | 12 => v = undef
          | 13 => v = .bool false
          | _ => True) (by kernel_rfl) (by kernel_rfl) (by kernel_rfl) (by kernel_rfl) (by decide) ?htlfp ?hfrfp ?stabfp ?stepsfp ?donefp
        case htlfp => simp only [List.drop_succ_cons, List.drop_zero]; rfl
        case hfrfp => intro vals; simp only [putAll, dstAt, Act.put, List.getElem?_toArray, List.getElem?_cons_zero, List.getElem?_cons_succ, Option.bind_some, List.setIfInBounds_toArray, List.set_cons_zero, List.set_cons_succ]; rfl
        case stabfp =>
          intro i v wa wb h
          try dsimp only
          split <;> first | exact id | fail
        case stepsfp =>
          refine ⟨?_, ?_, ?_, ?_, ?_, ?_, ?_, ?_, ?_, ?_, ?_, ?_, ?_, ?_, trivial⟩
          · intro vals wr hR hp K hK
            dsimp only at hK ⊢
            clear hp
            unfold RunsOp
            go_simp
            exact hK.out _ _ ⟨_, rfl, Only.refl _ _, rfl⟩
          · intro vals wr hR hp K hK
            dsimp only at hK ⊢
            clear hp
            unfold RunsOp
            go_simp
            exact hK.out _ _ ⟨_, rfl, Only.refl _ _, rfl⟩
          · intro vals wr hR hp K hK
            dsimp only at hK ⊢
            obtain ⟨p0, p1, -⟩ := hp
            replace p0 := p0 rfl
            replace p1 := p1 rfl
            dsimp only at p0 p1
            rw [p0, p1] at hK ⊢
            clear p0 p1
            unfold RunsOp
            go_simp
            exact hK.out _ _ ⟨_, rfl, Only.refl _ _, rfl⟩
          · intro vals wr hR hp K hK
            dsimp only at hK ⊢
            obtain ⟨p2, -⟩ := hp
            replace p2 := p2 rfl
            dsimp only at p2
            rw [p2] at hK ⊢
            clear p2
            unfold RunsOp
            have c0 := (hR.cell (p := ⟨b, o + k * 2, none⟩) hbl (by simp)).trans HC0.out
            have c1 := (hR.cell (p := ⟨b, o + k * 2 + 1, none⟩) hbl (by simp)).trans HC1.out
            go_simp
            exact hK.out _ _ ⟨_, rfl, Only.refl _ _, rfl⟩
          · intro vals wr hR hp K hK
            dsimp only at hK ⊢
            obtain ⟨p3, -⟩ := hp
            replace p3 := p3 rfl
            dsimp only at p3
            rw [p3] at hK ⊢
            clear p3
            unfold RunsOp
            go_simp
            refine (refrightr hok RT.out _).mono ?_
            rintro e w2 ⟨rfl, o2⟩
            exact hK.out _ _ ⟨_, rfl, o2, rfl⟩
          · intro vals wr hR hp K hK
            dsimp only at hK ⊢
            obtain ⟨p4, -, -⟩ := hp
            replace p4 := p4 rfl
            dsimp only at p4
            obtain p4 := p4
            rw [p4] at hK ⊢
            clear p4
            unfold RunsOp
            go_simp
            exact hK.out _ _ ⟨_, rfl, Only.refl _ _, rfl⟩
          · intro vals wr hR hp K hK
            dsimp only at hK ⊢
            obtain ⟨p5, -⟩ := hp
            replace p5 := p5 rfl
            dsimp only at p5
            rw [p5] at hK ⊢
            clear p5
            unfold RunsOp
            go_simp
            exact hK.out _ _ ⟨_, rfl, Only.refl _ _, rfl⟩
          · intro vals wr hR hp K hK
            dsimp only at hK ⊢
            obtain ⟨p5, -⟩ := hp
            replace p5 := p5 rfl
            dsimp only at p5
            rw [p5] at hK ⊢
            clear p5
            unfold RunsOp
            go_simp
            exact hK.out _ _ ⟨_, rfl, Only.refl _ _, rfl⟩
          · intro vals wr hR hp K hK
            dsimp only at hK ⊢
            obtain ⟨p6, p7, p5, -⟩ := hp
            replace p6 := p6 rfl
            replace p7 := p7 rfl
            replace p5 := p5 rfl
            dsimp only at p6 p7 p5
            rw [p6, p7, p5] at hK ⊢
            clear p6 p7 p5
            unfold RunsOp
            go_simp
            exact hK.out _ _ ⟨_, rfl, Only.refl _ _, rfl⟩
          · intro vals wr hR hp K hK
            dsimp only at hK ⊢
            obtain ⟨p8, p5, -⟩ := hp
            replace p8 := p8 rfl
            replace p5 := p5 rfl
            dsimp only at p8 p5
            rw [p8, p5] at hK ⊢
            clear p8 p5
            unfold RunsOp
            go_simp
            exact hK.out _ _ ⟨_, rfl, Only.refl _ _, rfl⟩
          · intro vals wr hR hp K hK
            dsimp only at hK ⊢
            obtain ⟨p5, -⟩ := hp
            replace p5 := p5 rfl
            dsimp only at p5
            rw [p5] at hK ⊢
            clear p5
            unfold RunsOp
            go_simp
            exact hK.out _ _ ⟨_, rfl, Only.refl _ _, rfl⟩
          · intro vals wr hR hp K hK
            dsimp only at hK ⊢
            obtain ⟨p9, p10, p5, -, -⟩ := hp
            replace p9 := p9 rfl
            replace p10 := p10 rfl
            replace p5 := p5 rfl
            dsimp only at p9 p10 p5
            rw [p9, p10, p5] at hK ⊢
            clear p9 p10 p5
            unfold RunsOp
            go_simp
            exact hK.out _ _ ⟨_, rfl, Only.refl _ _, rfl⟩
          · intro vals wr hR hp K hK
            dsimp only at hK ⊢
            obtain ⟨p11, p5, -⟩ := hp
            replace p11 := p11 rfl
            replace p5 := p5 rfl
            dsimp only at p11 p5
            rw [p11, p5] at hK ⊢
            clear p11 p5
            unfold RunsOp
            go_simp
            exact hK.out _ _ ⟨_, rfl, Only.refl _ _, rfl⟩
          · intro vals wr hR hp K hK
            dsimp only at hK ⊢
            obtain ⟨p5, p12, -⟩ := hp
            replace p5 := p5 rfl
            replace p12 := p12 rfl
            dsimp only at p5 p12
            rw [p5, p12] at hK ⊢
            clear p5 p12
            unfold RunsOp
            go_simp
            exact hK.out _ _ ⟨_, rfl, Only.refl _ _, rfl⟩
        case donefp =>
          intro vals wd hR hF
          have f13 : vals 13 = .bool false := hF 13 (by decide)
          rw [f13]
          have t0 := (hR.cell (p := ⟨b, o + k * 2, none⟩) hbl (by simp)).trans HC0.out
          have t1 := (hR.cell (p := ⟨b, o + k * 2 + 1, none⟩) hbl (by simp)).trans HC1.out
          have M9 := hR.blk (Blk.drew HM.out) (by simp)
          have fm0 := M9.frozen 0
          have fm1 := M9.frozen 1
          obtain ⟨m0, m1, ml⟩ := M9.facts2
          have HM9 := Lib.hid M9
          have HO9 := Lib.hid (HO.out.drew.trans hR (by simp))
          clear hF f13 hR M9
          refine wpList_nil ?_
          go_wp2_with (fail)
          go_roundw
          case rel =>
            refine ⟨k + 1, by go_num, by omega, ?_, HO9.out⟩
            rw [HS.out, if_neg (by omega)]
            exact HM9.out
          case measure => simp [intOf]; omega
    · obtain rfl : k = L.length := by omega
      rw [List.take_length] at hm
      have hEQ := eq_timesT (minT L)
      have HM := Lib.hid hm
      have HO := Lib.hid ho
      clear hm ho
      go_wp2_with (fail)
      refine wp_region_facts 7 [] (fr := ?frz) (tl := ?tlz) (fun i v wv => match i with
        | 0 => v = .bool true
        | 1 => v = .bool true
        | 2 => v = .slice A L.length cap
        | 3 => v = .agg #[.int .i64 (minT L).1, .int .i64 (minT L).2]
        | 4 => v = .agg #[.int .i64 (minT L).1, .int .i64 (minT L).2]
        | 5 => v = .bool true
        | 6 => v = .bool true
        | _ => True) (by kernel_rfl) (by kernel_rfl) (by kernel_rfl) (by kernel_rfl) (by decide) ?htlz ?hfrz ?stabz ?stepsz ?donez
      case htlz => simp only [List.drop_succ_cons, List.drop_zero]; rfl
      case hfrz => intro vals; simp only [putAll, dstAt, Act.put, List.getElem?_toArray, List.getElem?_cons_zero, List.getElem?_cons_succ, Option.bind_some, List.setIfInBounds_toArray, List.set_cons_zero, List.set_cons_succ]; rfl
      case stabz =>
        intro i v wa wb h
        try dsimp only
        split <;> first | exact id | fail
      case stepsz =>
        refine ⟨?_, ?_, ?_, ?_, ?_, ?_, ?_, trivial⟩
        · intro vals wr hR hp K hK
          dsimp only at hK ⊢
          clear hp
          unfold RunsOp
          go_simp
          refine (awake_any _).mono ?_
          rintro e w2 ⟨rfl, o2⟩
          exact hK.out _ _ ⟨_, rfl, o2, rfl⟩
        · intro vals wr hR hp K hK
          dsimp only at hK ⊢
          obtain ⟨p0, -, -⟩ := hp
          replace p0 := p0 rfl
          dsimp only at p0
          obtain p0 := p0
          rw [p0] at hK ⊢
          clear p0
          unfold RunsOp
          go_simp
          exact hK.out _ _ ⟨_, rfl, Only.refl _ _, rfl⟩
        · intro vals wr hR hp K hK
          dsimp only at hK ⊢
          obtain ⟨p1, -⟩ := hp
          replace p1 := p1 rfl
          dsimp only at p1
          rw [p1] at hK ⊢
          clear p1
          unfold RunsOp
          go_simp
          exact hK.out _ _ ⟨_, rfl, Only.refl _ _, rfl⟩
        · intro vals wr hR hp K hK
          dsimp only at hK ⊢
          obtain ⟨p2, p1, -, -⟩ := hp
          replace p2 := p2 rfl
          replace p1 := p1 rfl
          dsimp only at p2 p1
          rw [p2, p1] at hK ⊢
          clear p2 p1
          unfold RunsOp
          go_simp
          refine (min_any ((HL.out.only HO.out).only (Only.trans (Only.drew (Only.refl [] _)) hR (by simp))) (by omega)).mono ?_
          rintro e w2 ⟨rfl, o2⟩
          exact hK.out _ _ ⟨_, rfl, o2, rfl⟩
        · intro vals wr hR hp K hK
          dsimp only at hK ⊢
          obtain ⟨p1, -⟩ := hp
          replace p1 := p1 rfl
          dsimp only at p1
          rw [p1] at hK ⊢
          clear p1
          unfold RunsOp
          have tb := hR.blk (Blk.drew HM.out) (by simp)
          obtain ⟨c0, c1, cl⟩ := tb.facts2
          clear tb
          go_simp
          exact hK.out _ _ ⟨_, rfl, Only.refl _ _, rfl⟩
        · intro vals wr hR hp K hK
          dsimp only at hK ⊢
          obtain ⟨p3, p4, p1, -⟩ := hp
          replace p3 := p3 rfl
          replace p4 := p4 rfl
          replace p1 := p1 rfl
          dsimp only at p3 p4 p1
          obtain p3 := p3
          rw [p3, p4, p1] at hK ⊢
          clear p3 p4 p1
          unfold RunsOp
          go_simp
          exact hK.out _ _ ⟨_, rfl, Only.refl _ _, rfl⟩
        · intro vals wr hR hp K hK
          dsimp only at hK ⊢
          obtain ⟨p1, p5, -⟩ := hp
          replace p1 := p1 rfl
          replace p5 := p5 rfl
          dsimp only at p1 p5
          rw [p1, p5] at hK ⊢
          clear p1 p5
          unfold RunsOp
          go_simp
          exact hK.out _ _ ⟨_, rfl, Only.refl _ _, rfl⟩
      case donez =>
        intro vals wd hR hF
        have f6 : vals 6 = .bool true := hF 6 (by decide)
        rw [f6]
        have O9 := Lib.hid (HO.out.drew.trans hR (by simp))
        clear hF f6 hR
        go_wp2_with (fail)
        go_ret
        exact ⟨rfl, O9.out⟩

theorem mins_any {A : Option Addr} {cap : Nat} {L : List Tm} {w : World} (hL : Times w A L) (hlen : L.length ≤ 9223372036854775807) :
    Calls Tryd.prog 5 #[.slice A L.length cap] w fun e w' => e = .returned (.bool true) ∧ Only [] w w' := by
  by_cases hl : 1000 < L.length
  · exact mins_many hl hlen
  · exact mins_few hL (by omega)
end Go.Proofs.YtgfmahfdkiblbaaDoor
