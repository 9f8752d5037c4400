/- StampLeast: the law's own walk. -/
import Derived.Test.YtoefekgfklillaaDoorSt9
import Derived.Test.YtoefekgfklillaaDoorApnd
namespace Go.Proofs.YtoefekgfklillaaDoor
open Go.RowKit Go.Kx
set_option maxRecDepth 20000

theorem owns_ne {w : World} {base : Nat} {e t : TypeId} {size n : Nat} {v : Value} {xs : List Value} {g : Nat} {cs : Array Value} (h : w.ownsRow base e size v n xs) (hb : Blk w g t cs) (hne : e ≠ t) : v.ownBlock ≠ some g := by
  rcases h.2 with ⟨rfl, _⟩ | ⟨g', cap, cur, rfl, _, hg, _⟩
  · simp [Value.ownBlock]
  · intro k
    simp [Value.ownBlock] at k
    subst k
    unfold Blk at hb
    rw [hg] at hb
    injection hb with hb
    injection hb with _ h2 _
    exact hne h2
theorem stleast_many {A : Option Addr} {cap : Nat} {L : List St} {w : World} (hw : Tab10 w) (hl : 1000 < L.length) (hlen : L.length ≤ 9223372036854775807) :
    Calls Tryd.prog 7 #[.slice A L.length cap] w fun e w' => e = .returned (.bool true) ∧ Only [] w w' := by
  have hg : decide ((1000 : Int) < (L.length : Int)) = true := by simp; omega
  have HW := Lib.hid hw
  clear hw
  go_enter Tryd.func7, Tryd.ntmps7
  go_wp2_with (fail)
  refine (awake_any HW.out).mono ?_
  rintro e w1 ⟨rfl, o1⟩
  go_wp2_with (fail)
  refine (awake_any (HW.out.only o1)).mono ?_
  rintro e w2 ⟨rfl, o2⟩
  go_wp2_with (fail)
  go_ret
  exact ⟨rfl, o1.trans o2 (by simp)⟩

set_option maxHeartbeats 4000000 in
theorem stleast_few {A : Option Addr} {cap : Nat} {L : List St} {w : World} (hw : Tab10 w) (hL : Stamps w A L) (hl : L.length ≤ 1000) :
    Calls Tryd.prog 7 #[.slice A L.length cap] w fun e w' => e = .returned (.bool true) ∧ Only [] w w' := by
  have HW := Lib.hid hw
  have HL := Lib.hid hL
  clear hL hw
  have hg : decide ((1000 : Int) < (L.length : Int)) = false := by simp; omega
  go_enter Tryd.func7, Tryd.ntmps7
  go_wp2_with (fail)
  refine (awake_any HW.out).mono ?_
  rintro e w1 ⟨rfl, o1⟩
  go_wp2_with (fail)
  refine (refstnever_any _).mono ?_
  rintro e w2 ⟨rfl, o2⟩
  have hbb : w.heap.size ≤ w2.heap.size := by have := o1.size; have := o2.size; omega
  have HO2 := Lib.hid (o1.trans o2 (by simp))
  clear o1 o2
  go_wp2_with (fail)
  go_loopw [4, 5] (fun v i wr => ∃ (k : Nat) (A2 : Option Addr) (c2 : Nat), i = .int .i64 k ∧ v = .slice A2 k c2 ∧ k ≤ L.length ∧ wr.ownsRow w.heap.size 27 3 (.slice A2 k c2) k (flat3 (L.take k)) ∧ Blk wr w2.heap.size 25 #[.int .i64 (minS (L.take k)).1.1, .int .i64 (minS (L.take k)).1.2, .int .i64 (minS (L.take k)).2] ∧ Only [] w wr) (fun _ i _ => L.length - (intOf i).toNat)
  case atStart => exact ⟨0, none, 0, rfl, rfl, Nat.zero_le _, World.ownsRow_nil _ _ _ _, Blk.new _ _ _, HO2.out.alloc _⟩
  case round =>
    obtain ⟨k, A2, c2, rfl, rfl, hk, how, hm, ho⟩ := hrel
    by_cases hlt : k < L.length
    · obtain ⟨hok, b, o, rfl, hb, c0, c1, c2'⟩ := (HL.out.only ho) k L[k] (List.getElem?_eq_getElem hlt)
      have hbw : b < w.heap.size := (HL.out k L[k] (List.getElem?_eq_getElem hlt)).2.elim fun b' h => h.elim fun o' h => by
        have := h.1; cases this; exact h.2.1
      have hmo := minS_ok (L := L.take k) (fun s hs => by
        obtain ⟨i, hi, e⟩ := List.getElem_of_mem (List.mem_of_mem_take hs)
        exact (HL.out i s (by rw [List.getElem?_eq_getElem hi, e])).1)
      have hsn := minS_snoc (L.take k) L[k]
      have hfl := flat3_snoc (L.take k) L[k]
      rw [← List.take_succ_eq_append_getElem hlt] at hsn hfl
      have HT := Lib.hid (HL.out k L[k] (List.getElem?_eq_getElem hlt))
      generalize L[k] = t at hok c0 c1 c2' hsn hfl HT
      generalize minS (L.take k) = m at hm hmo hsn
      have hne := owns_ne how hm (by decide)
      have hsz := ho.size
      have hbl := how.lt
      have HC0 := Lib.hid c0
      have HC1 := Lib.hid c1
      have HC2 := Lib.hid c2'
      have HS := Lib.hid hsn
      have HF := Lib.hid hfl
      have HM := Lib.hid hm
      have HO := Lib.hid ho
      have HW0 := Lib.hid how
      have HNE := Lib.hid hne
      have HBL := Lib.hid hbl
      clear hsn hm ho hfl how hne hbl
      go_wp2_with (fail)
      refine (of_any t _).mono ?_
      rintro e w3 ⟨rfl, o3⟩
      have hs3 := o3.size
      obtain ⟨g, cap3, w4, hrun, how4, o4, hg4⟩ := run_append3 (P := Tryd.prog) 27 48 Tryd.underlying48 st_info rfl (ownsRow_only o3 HW0.out (fun _ _ => by simp)) (.int .i64 t.1.1) (.int .i64 t.1.2) (.int .i64 t.2) rfl rfl rfl (by omega) (by unfold maxLen; omega) (by omega)
      have hbn : b ∉ (Value.ownBlock (.slice A2 k c2)).toList := fun h => by
        have h := HBL.out b (by simpa using h)
        omega
      have hb3 : b < w3.heap.size := by omega
      have d0 := (o4.cell (p := ⟨b, o + k * 3, none⟩) hb3 hbn).trans ((o3.cell (p := ⟨b, o + k * 3, none⟩) hb (by simp)).trans HC0.out)
      have d1 := (o4.cell (p := ⟨b, o + k * 3 + 1, none⟩) hb3 hbn).trans ((o3.cell (p := ⟨b, o + k * 3 + 1, none⟩) hb (by simp)).trans HC1.out)
      have d2 := (o4.cell (p := ⟨b, o + k * 3 + 2, none⟩) hb3 hbn).trans ((o3.cell (p := ⟨b, o + k * 3 + 2, none⟩) hb (by simp)).trans HC2.out)
      have hm4 := o4.blk (o3.blk HM.out (by simp)) (fun h => HNE.out (by simpa using h))
      have hO4 : Only [] w w4 := (HO.out.trans o3 (by simp)).trans o4 (fun x hx => .inr (HBL.out x (by simpa using hx)).1)
      have hb4 : b < w4.heap.size := by have := o4.size; omega
      have hgw : w.heap.size ≤ g := by
        rcases hg4 with h | h
        · exact (HBL.out g h).1
        · omega
      have hne4 := owns_ne how4 hm4 (by decide)
      have HC0 := Lib.hid d0
      have HC1 := Lib.hid d1
      have HC2 := Lib.hid d2
      have HM := Lib.hid hm4
      have HO := Lib.hid hO4
      have HW4 := Lib.hid how4
      have HN4 := Lib.hid hne4
      clear d0 d1 d2 hm4 hO4 how4 o3 o4 c0 c1 c2' hne4 hg4
      obtain ⟨y, hy⟩ : ∃ y, stC t m = y := ⟨_, rfl⟩
      have HY := Lib.hid hy
      clear hy
      have hnn : ∀ g', Value.ownBlock (.slice (some ⟨g, 0, none⟩) (k + 1) cap3) = some g' → g' ∉ [w2.heap.size] := fun g' h h2 => HN4.out (by simp at h2; rw [h, h2])
      by_cases rt : stR t = true
      · have RT := Lib.hid rt
        clear rt
        by_cases hy0 : y < 0
        · have hd : decide (y < 0) = true := by simpa using hy0
          go_wp2_with (at_builtin; refine wpList_append_run hrun rfl _ _ rfl rfl rfl rfl ?_)
          refine wp_region_facts 14 [] (fr := ?frtn) (tl := ?tltn) (fun i v wv => match i with
            | 0 => v = .slice (some ⟨b, o, none⟩) L.length cap
            | 1 => v = .int .i64 k
            | 2 => v = .pointer (some ⟨b, o + k * 3, none⟩)
            | 3 => v = .agg #[.int .i64 t.1.1, .int .i64 t.1.2, .int .i64 t.2]
            | 4 => v = .bool true
            | 5 => v = .bool true
            | 6 => v = .slice (some ⟨b, o, none⟩) L.length cap
            | 7 => v = .int .i64 k
            | 8 => v = .pointer (some ⟨b, o + k * 3, none⟩)
            | 9 => v = .agg #[.int .i64 t.1.1, .int .i64 t.1.2, .int .i64 t.2]
            | 10 => v = .agg #[.int .i64 m.1.1, .int .i64 m.1.2, .int .i64 m.2]
            | 11 => v = .int .i64 y
            | 12 => v = .bool true
            | 13 => v = .bool true
            | _ => True) (by kernel_rfl) (by kernel_rfl) (by kernel_rfl) (by kernel_rfl) (by decide) ?htltn ?hfrtn ?stabtn ?stepstn ?donetn
          case htltn => simp only [List.drop_succ_cons, List.drop_zero]; rfl
          case hfrtn => intro vals; simp only [putAll, dstAt, Act.put, List.getElem?_toArray, List.getElem?_cons_zero, List.getElem?_cons_succ, Option.bind_some, List.setIfInBounds_toArray, List.set_cons_zero, List.set_cons_succ]; rfl
          case stabtn =>
            intro i v wa wb h
            try dsimp only
            split <;> first | exact id | fail
          case stepstn =>
            refine ⟨?_, ?_, ?_, ?_, ?_, ?_, ?_, ?_, ?_, ?_, ?_, ?_, ?_, ?_, trivial⟩
            · intro vals wr hR hp K hK
              dsimp only at hK ⊢
              clear hp
              unfold RunsOp
              go_simp
              exact hK.out _ _ ⟨_, rfl, Only.refl _ _, rfl⟩
            · intro vals wr hR hp K hK
              dsimp only at hK ⊢
              clear hp
              unfold RunsOp
              go_simp
              exact hK.out _ _ ⟨_, rfl, Only.refl _ _, rfl⟩
            · intro vals wr hR hp K hK
              dsimp only at hK ⊢
              obtain ⟨p0, p1, -⟩ := hp
              replace p0 := p0 rfl
              replace p1 := p1 rfl
              dsimp only at p0 p1
              rw [p0, p1] at hK ⊢
              clear p0 p1
              unfold RunsOp
              go_simp
              exact hK.out _ _ ⟨_, rfl, Only.refl _ _, rfl⟩
            · intro vals wr hR hp K hK
              dsimp only at hK ⊢
              obtain ⟨p2, -⟩ := hp
              replace p2 := p2 rfl
              dsimp only at p2
              rw [p2] at hK ⊢
              clear p2
              unfold RunsOp
              have c0 := (hR.cell (p := ⟨b, o + k * 3, none⟩) hb4 (by simp)).trans HC0.out
              have c1 := (hR.cell (p := ⟨b, o + k * 3 + 1, none⟩) hb4 (by simp)).trans HC1.out
              have c2 := (hR.cell (p := ⟨b, o + k * 3 + 2, none⟩) hb4 (by simp)).trans HC2.out
              go_simp
              exact hK.out _ _ ⟨_, rfl, Only.refl _ _, rfl⟩
            · intro vals wr hR hp K hK
              dsimp only at hK ⊢
              obtain ⟨p3, -⟩ := hp
              replace p3 := p3 rfl
              dsimp only at p3
              rw [p3] at hK ⊢
              clear p3
              unfold RunsOp
              go_simp
              refine (refstr hok RT.out _).mono ?_
              rintro e w2 ⟨rfl, o2⟩
              exact hK.out _ _ ⟨_, rfl, o2, rfl⟩
            · intro vals wr hR hp K hK
              dsimp only at hK ⊢
              obtain ⟨p4, -, -⟩ := hp
              replace p4 := p4 rfl
              dsimp only at p4
              obtain p4 := p4
              rw [p4] at hK ⊢
              clear p4
              unfold RunsOp
              go_simp
              exact hK.out _ _ ⟨_, rfl, Only.refl _ _, rfl⟩
            · intro vals wr hR hp K hK
              dsimp only at hK ⊢
              obtain ⟨p5, -⟩ := hp
              replace p5 := p5 rfl
              dsimp only at p5
              rw [p5] at hK ⊢
              clear p5
              unfold RunsOp
              go_simp
              exact hK.out _ _ ⟨_, rfl, Only.refl _ _, rfl⟩
            · intro vals wr hR hp K hK
              dsimp only at hK ⊢
              obtain ⟨p5, -⟩ := hp
              replace p5 := p5 rfl
              dsimp only at p5
              rw [p5] at hK ⊢
              clear p5
              unfold RunsOp
              go_simp
              exact hK.out _ _ ⟨_, rfl, Only.refl _ _, rfl⟩
            · intro vals wr hR hp K hK
              dsimp only at hK ⊢
              obtain ⟨p6, p7, p5, -⟩ := hp
              replace p6 := p6 rfl
              replace p7 := p7 rfl
              replace p5 := p5 rfl
              dsimp only at p6 p7 p5
              rw [p6, p7, p5] at hK ⊢
              clear p6 p7 p5
              unfold RunsOp
              go_simp
              exact hK.out _ _ ⟨_, rfl, Only.refl _ _, rfl⟩
            · intro vals wr hR hp K hK
              dsimp only at hK ⊢
              obtain ⟨p8, p5, -⟩ := hp
              replace p8 := p8 rfl
              replace p5 := p5 rfl
              dsimp only at p8 p5
              rw [p8, p5] at hK ⊢
              clear p8 p5
              unfold RunsOp
              have c0 := (hR.cell (p := ⟨b, o + k * 3, none⟩) hb4 (by simp)).trans HC0.out
              have c1 := (hR.cell (p := ⟨b, o + k * 3 + 1, none⟩) hb4 (by simp)).trans HC1.out
              have c2 := (hR.cell (p := ⟨b, o + k * 3 + 2, none⟩) hb4 (by simp)).trans HC2.out
              go_simp
              exact hK.out _ _ ⟨_, rfl, Only.refl _ _, rfl⟩
            · intro vals wr hR hp K hK
              dsimp only at hK ⊢
              obtain ⟨p5, -⟩ := hp
              replace p5 := p5 rfl
              dsimp only at p5
              rw [p5] at hK ⊢
              clear p5
              unfold RunsOp
              have tb := hR.blk (Blk.drew HM.out) (by simp)
              obtain ⟨c0, c1, c2, cl⟩ := tb.facts3
              clear tb
              go_simp
              exact hK.out _ _ ⟨_, rfl, Only.refl _ _, rfl⟩
            · intro vals wr hR hp K hK
              dsimp only at hK ⊢
              obtain ⟨p9, p10, p5, -, -⟩ := hp
              replace p9 := p9 rfl
              replace p10 := p10 rfl
              replace p5 := p5 rfl
              dsimp only at p9 p10 p5
              rw [p9, p10, p5] at hK ⊢
              clear p9 p10 p5
              unfold RunsOp
              go_simp
              refine (refstcmpr t m hok hmo HY.out _).mono ?_
              rintro e w2 ⟨rfl, o2⟩
              exact hK.out _ _ ⟨_, rfl, o2, rfl⟩
            · intro vals wr hR hp K hK
              dsimp only at hK ⊢
              obtain ⟨p11, p5, -⟩ := hp
              replace p11 := p11 rfl
              replace p5 := p5 rfl
              dsimp only at p11 p5
              obtain p11 := p11
              rw [p11, p5] at hK ⊢
              clear p11 p5
              unfold RunsOp
              go_simp
              exact hK.out _ _ ⟨_, rfl, Only.refl _ _, rfl⟩
            · intro vals wr hR hp K hK
              dsimp only at hK ⊢
              obtain ⟨p5, p12, -⟩ := hp
              replace p5 := p5 rfl
              replace p12 := p12 rfl
              dsimp only at p5 p12
              rw [p5, p12] at hK ⊢
              clear p5 p12
              unfold RunsOp
              go_simp
              exact hK.out _ _ ⟨_, rfl, Only.refl _ _, rfl⟩
          case donetn =>
            intro vals wd hR hF
            have f13 : vals 13 = .bool true := hF 13 (by decide)
            rw [f13]
            have t0 := (hR.cell (p := ⟨b, o + k * 3, none⟩) hb4 (by simp)).trans HC0.out
            have t1 := (hR.cell (p := ⟨b, o + k * 3 + 1, none⟩) hb4 (by simp)).trans HC1.out
            have t2 := (hR.cell (p := ⟨b, o + k * 3 + 2, none⟩) hb4 (by simp)).trans HC2.out
            have M9 := hR.blk (Blk.drew HM.out) (by simp)
            have fm0 := M9.frozen 0
            have fm1 := M9.frozen 1
            have fm2 := M9.frozen 2
            obtain ⟨m0, m1, m2, ml⟩ := M9.facts3
            have HM9 := Lib.hid M9
            have HO9 := Lib.hid (HO.out.drew.trans hR (by simp))
            have HW9 := Lib.hid (ownsRow_only (w := w4) (Only.trans (Only.drew (Only.refl [] w4)) hR (by simp)) HW4.out (fun _ _ => by simp))
            clear hF f13 hR M9
            refine wpList_nil ?_
            go_wp2_with (fail)
            go_roundw
            case rel =>
              refine ⟨k + 1, some ⟨g, 0, none⟩, cap3, by go_num, by first | rfl | simp, by omega, ?_, ?_, ((HO9.out.setCell (.inr hbb) _).setCell (.inr hbb) _).setCell (.inr hbb) _⟩
              · rw [HF.out]
                exact ownsRow_only (only_setCell _ _ _) (ownsRow_only (only_setCell _ _ _) (ownsRow_only (only_setCell _ _ _) HW9.out hnn) hnn) hnn
              · rw [HS.out, if_pos (by have := HY.out; omega)]
                exact ((HM9.out.set_ 0 _).set_ 1 _).set_ 2 _
            case measure => simp [intOf]; omega
        · have hd : decide (y < 0) = false := by simpa using hy0
          go_wp2_with (at_builtin; refine wpList_append_run hrun rfl _ _ rfl rfl rfl rfl ?_)
          refine wp_region_facts 14 [] (fr := ?frtp) (tl := ?tltp) (fun i v wv => match i with
            | 0 => v = .slice (some ⟨b, o, none⟩) L.length cap
            | 1 => v = .int .i64 k
            | 2 => v = .pointer (some ⟨b, o + k * 3, none⟩)
            | 3 => v = .agg #[.int .i64 t.1.1, .int .i64 t.1.2, .int .i64 t.2]
            | 4 => v = .bool true
            | 5 => v = .bool true
            | 6 => v = .slice (some ⟨b, o, none⟩) L.length cap
            | 7 => v = .int .i64 k
            | 8 => v = .pointer (some ⟨b, o + k * 3, none⟩)
            | 9 => v = .agg #[.int .i64 t.1.1, .int .i64 t.1.2, .int .i64 t.2]
            | 10 => v = .agg #[.int .i64 m.1.1, .int .i64 m.1.2, .int .i64 m.2]
            | 11 => v = .int .i64 y
            | 12 => v = .bool false
            | 13 => v = .bool false
            | _ => True) (by kernel_rfl) (by kernel_rfl) (by kernel_rfl) (by kernel_rfl) (by decide) ?htltp ?hfrtp ?stabtp ?stepstp ?donetp
          case htltp => simp only [List.drop_succ_cons, List.drop_zero]; rfl
          case hfrtp => intro vals; simp only [putAll, dstAt, Act.put, List.getElem?_toArray, List.getElem?_cons_zero, List.getElem?_cons_succ, Option.bind_some, List.setIfInBounds_toArray, List.set_cons_zero, List.set_cons_succ]; rfl
          case stabtp =>
            intro i v wa wb h
            try dsimp only
            split <;> first | exact id | fail
          case stepstp =>
            refine ⟨?_, ?_, ?_, ?_, ?_, ?_, ?_, ?_, ?_, ?_, ?_, ?_, ?_, ?_, trivial⟩
            · intro vals wr hR hp K hK
              dsimp only at hK ⊢
              clear hp
              unfold RunsOp
              go_simp
              exact hK.out _ _ ⟨_, rfl, Only.refl _ _, rfl⟩
            · intro vals wr hR hp K hK
              dsimp only at hK ⊢
              clear hp
              unfold RunsOp
              go_simp
              exact hK.out _ _ ⟨_, rfl, Only.refl _ _, rfl⟩
            · intro vals wr hR hp K hK
              dsimp only at hK ⊢
              obtain ⟨p0, p1, -⟩ := hp
              replace p0 := p0 rfl
              replace p1 := p1 rfl
              dsimp only at p0 p1
              rw [p0, p1] at hK ⊢
              clear p0 p1
              unfold RunsOp
              go_simp
              exact hK.out _ _ ⟨_, rfl, Only.refl _ _, rfl⟩
            · intro vals wr hR hp K hK
              dsimp only at hK ⊢
              obtain ⟨p2, -⟩ := hp
              replace p2 := p2 rfl
              dsimp only at p2
              rw [p2] at hK ⊢
              clear p2
              unfold RunsOp
              have c0 := (hR.cell (p := ⟨b, o + k * 3, none⟩) hb4 (by simp)).trans HC0.out
              have c1 := (hR.cell (p := ⟨b, o + k * 3 + 1, none⟩) hb4 (by simp)).trans HC1.out
              have c2 := (hR.cell (p := ⟨b, o + k * 3 + 2, none⟩) hb4 (by simp)).trans HC2.out
              go_simp
              exact hK.out _ _ ⟨_, rfl, Only.refl _ _, rfl⟩
            · intro vals wr hR hp K hK
              dsimp only at hK ⊢
              obtain ⟨p3, -⟩ := hp
              replace p3 := p3 rfl
              dsimp only at p3
              rw [p3] at hK ⊢
              clear p3
              unfold RunsOp
              go_simp
              refine (refstr hok RT.out _).mono ?_
              rintro e w2 ⟨rfl, o2⟩
              exact hK.out _ _ ⟨_, rfl, o2, rfl⟩
            · intro vals wr hR hp K hK
              dsimp only at hK ⊢
              obtain ⟨p4, -, -⟩ := hp
              replace p4 := p4 rfl
              dsimp only at p4
              obtain p4 := p4
              rw [p4] at hK ⊢
              clear p4
              unfold RunsOp
              go_simp
              exact hK.out _ _ ⟨_, rfl, Only.refl _ _, rfl⟩
            · intro vals wr hR hp K hK
              dsimp only at hK ⊢
              obtain ⟨p5, -⟩ := hp
              replace p5 := p5 rfl
              dsimp only at p5
              rw [p5] at hK ⊢
              clear p5
              unfold RunsOp
              go_simp
              exact hK.out _ _ ⟨_, rfl, Only.refl _ _, rfl⟩
            · intro vals wr hR hp K hK
              dsimp only at hK ⊢
              obtain ⟨p5, -⟩ := hp
              replace p5 := p5 rfl
              dsimp only at p5
              rw [p5] at hK ⊢
              clear p5
              unfold RunsOp
              go_simp
              exact hK.out _ _ ⟨_, rfl, Only.refl _ _, rfl⟩
            · intro vals wr hR hp K hK
              dsimp only at hK ⊢
              obtain ⟨p6, p7, p5, -⟩ := hp
              replace p6 := p6 rfl
              replace p7 := p7 rfl
              replace p5 := p5 rfl
              dsimp only at p6 p7 p5
              rw [p6, p7, p5] at hK ⊢
              clear p6 p7 p5
              unfold RunsOp
              go_simp
              exact hK.out _ _ ⟨_, rfl, Only.refl _ _, rfl⟩
            · intro vals wr hR hp K hK
              dsimp only at hK ⊢
              obtain ⟨p8, p5, -⟩ := hp
              replace p8 := p8 rfl
              replace p5 := p5 rfl
              dsimp only at p8 p5
              rw [p8, p5] at hK ⊢
              clear p8 p5
              unfold RunsOp
              have c0 := (hR.cell (p := ⟨b, o + k * 3, none⟩) hb4 (by simp)).trans HC0.out
              have c1 := (hR.cell (p := ⟨b, o + k * 3 + 1, none⟩) hb4 (by simp)).trans HC1.out
              have c2 := (hR.cell (p := ⟨b, o + k * 3 + 2, none⟩) hb4 (by simp)).trans HC2.out
              go_simp
              exact hK.out _ _ ⟨_, rfl, Only.refl _ _, rfl⟩
            · intro vals wr hR hp K hK
              dsimp only at hK ⊢
              obtain ⟨p5, -⟩ := hp
              replace p5 := p5 rfl
              dsimp only at p5
              rw [p5] at hK ⊢
              clear p5
              unfold RunsOp
              have tb := hR.blk (Blk.drew HM.out) (by simp)
              obtain ⟨c0, c1, c2, cl⟩ := tb.facts3
              clear tb
              go_simp
              exact hK.out _ _ ⟨_, rfl, Only.refl _ _, rfl⟩
            · intro vals wr hR hp K hK
              dsimp only at hK ⊢
              obtain ⟨p9, p10, p5, -, -⟩ := hp
              replace p9 := p9 rfl
              replace p10 := p10 rfl
              replace p5 := p5 rfl
              dsimp only at p9 p10 p5
              rw [p9, p10, p5] at hK ⊢
              clear p9 p10 p5
              unfold RunsOp
              go_simp
              refine (refstcmpr t m hok hmo HY.out _).mono ?_
              rintro e w2 ⟨rfl, o2⟩
              exact hK.out _ _ ⟨_, rfl, o2, rfl⟩
            · intro vals wr hR hp K hK
              dsimp only at hK ⊢
              obtain ⟨p11, p5, -⟩ := hp
              replace p11 := p11 rfl
              replace p5 := p5 rfl
              dsimp only at p11 p5
              obtain p11 := p11
              rw [p11, p5] at hK ⊢
              clear p11 p5
              unfold RunsOp
              go_simp
              exact hK.out _ _ ⟨_, rfl, Only.refl _ _, rfl⟩
            · intro vals wr hR hp K hK
              dsimp only at hK ⊢
              obtain ⟨p5, p12, -⟩ := hp
              replace p5 := p5 rfl
              replace p12 := p12 rfl
              dsimp only at p5 p12
              rw [p5, p12] at hK ⊢
              clear p5 p12
              unfold RunsOp
              go_simp
              exact hK.out _ _ ⟨_, rfl, Only.refl _ _, rfl⟩
          case donetp =>
            intro vals wd hR hF
            have f13 : vals 13 = .bool false := hF 13 (by decide)
            rw [f13]
            have t0 := (hR.cell (p := ⟨b, o + k * 3, none⟩) hb4 (by simp)).trans HC0.out
            have t1 := (hR.cell (p := ⟨b, o + k * 3 + 1, none⟩) hb4 (by simp)).trans HC1.out
            have t2 := (hR.cell (p := ⟨b, o + k * 3 + 2, none⟩) hb4 (by simp)).trans HC2.out
            have M9 := hR.blk (Blk.drew HM.out) (by simp)
            have fm0 := M9.frozen 0
            have fm1 := M9.frozen 1
            have fm2 := M9.frozen 2
            obtain ⟨m0, m1, m2, ml⟩ := M9.facts3
            have HM9 := Lib.hid M9
            have HO9 := Lib.hid (HO.out.drew.trans hR (by simp))
            have HW9 := Lib.hid (ownsRow_only (w := w4) (Only.trans (Only.drew (Only.refl [] w4)) hR (by simp)) HW4.out (fun _ _ => by simp))
            clear hF f13 hR M9
            refine wpList_nil ?_
            go_wp2_with (fail)
            go_roundw
            case rel =>
              refine ⟨k + 1, some ⟨g, 0, none⟩, cap3, by go_num, by first | rfl | simp, by omega, ?_, ?_, HO9.out⟩
              · rw [HF.out]
                exact HW9.out
              · rw [HS.out, if_neg (by have := HY.out; omega)]
                exact HM9.out
            case measure => simp [intOf]; omega
      · have rt : stR t = false := by simpa using rt
        have hy0 : ¬ y < 0 := by
          have h := HY.out
          unfold stC at h
          rw [if_neg (fun k => by rw [rt] at k; exact absurd k.1 (by simp))] at h
          omega
        have RT := Lib.hid rt
        clear rt
        go_wp2_with (at_builtin; refine wpList_append_run hrun rfl _ _ rfl rfl rfl rfl ?_)
        refine wp_region_facts 14 [] (fr := ?frfp) (tl := ?tlfp) (fun i v wv => match i with
          | 0 => v = .slice (some ⟨b, o, none⟩) L.length cap
          | 1 => v = .int .i64 k
          | 2 => v = .pointer (some ⟨b, o + k * 3, none⟩)
          | 3 => v = .agg #[.int .i64 t.1.1, .int .i64 t.1.2, .int .i64 t.2]
          | 4 => v = .bool false
          | 5 => v = .bool false
          | 6 => v = undef
          | 7 => v = undef
          | 8 => v = undef
          | 9 => v = undef
          | 10 => v = undef
          | 11 => v = undef
          | 12 => v = undef
          | 13 => v = .bool false
          | _ => True) (by kernel_rfl) (by kernel_rfl) (by kernel_rfl) (by kernel_rfl) (by decide) ?htlfp ?hfrfp ?stabfp ?stepsfp ?donefp
        case htlfp => simp only [List.drop_succ_cons, List.drop_zero]; rfl
        case hfrfp => intro vals; simp only [putAll, dstAt, Act.put, List.getElem?_toArray, List.getElem?_cons_zero, List.getElem?_cons_succ, Option.bind_some, List.setIfInBounds_toArray, List.set_cons_zero, List.set_cons_succ]; rfl
        case stabfp =>
          intro i v wa wb h
          try dsimp only
          split <;> first | exact id | fail
        case stepsfp =>
          refine ⟨?_, ?_, ?_, ?_, ?_, ?_, ?_, ?_, ?_, ?_, ?_, ?_, ?_, ?_, trivial⟩
          · intro vals wr hR hp K hK
            dsimp only at hK ⊢
            clear hp
            unfold RunsOp
            go_simp
            exact hK.out _ _ ⟨_, rfl, Only.refl _ _, rfl⟩
          · intro vals wr hR hp K hK
            dsimp only at hK ⊢
            clear hp
            unfold RunsOp
            go_simp
            exact hK.out _ _ ⟨_, rfl, Only.refl _ _, rfl⟩
          · intro vals wr hR hp K hK
            dsimp only at hK ⊢
            obtain ⟨p0, p1, -⟩ := hp
            replace p0 := p0 rfl
            replace p1 := p1 rfl
            dsimp only at p0 p1
            rw [p0, p1] at hK ⊢
            clear p0 p1
            unfold RunsOp
            go_simp
            exact hK.out _ _ ⟨_, rfl, Only.refl _ _, rfl⟩
          · intro vals wr hR hp K hK
            dsimp only at hK ⊢
            obtain ⟨p2, -⟩ := hp
            replace p2 := p2 rfl
            dsimp only at p2
            rw [p2] at hK ⊢
            clear p2
            unfold RunsOp
            have c0 := (hR.cell (p := ⟨b, o + k * 3, none⟩) hb4 (by simp)).trans HC0.out
            have c1 := (hR.cell (p := ⟨b, o + k * 3 + 1, none⟩) hb4 (by simp)).trans HC1.out
            have c2 := (hR.cell (p := ⟨b, o + k * 3 + 2, none⟩) hb4 (by simp)).trans HC2.out
            go_simp
            exact hK.out _ _ ⟨_, rfl, Only.refl _ _, rfl⟩
          · intro vals wr hR hp K hK
            dsimp only at hK ⊢
            obtain ⟨p3, -⟩ := hp
            replace p3 := p3 rfl
            dsimp only at p3
            rw [p3] at hK ⊢
            clear p3
            unfold RunsOp
            go_simp
            refine (refstr hok RT.out _).mono ?_
            rintro e w2 ⟨rfl, o2⟩
            exact hK.out _ _ ⟨_, rfl, o2, rfl⟩
          · intro vals wr hR hp K hK
            dsimp only at hK ⊢
            obtain ⟨p4, -, -⟩ := hp
            replace p4 := p4 rfl
            dsimp only at p4
            obtain p4 := p4
            rw [p4] at hK ⊢
            clear p4
            unfold RunsOp
            go_simp
            exact hK.out _ _ ⟨_, rfl, Only.refl _ _, rfl⟩
          · intro vals wr hR hp K hK
            dsimp only at hK ⊢
            obtain ⟨p5, -⟩ := hp
            replace p5 := p5 rfl
            dsimp only at p5
            rw [p5] at hK ⊢
            clear p5
            unfold RunsOp
            go_simp
            exact hK.out _ _ ⟨_, rfl, Only.refl _ _, rfl⟩
          · intro vals wr hR hp K hK
            dsimp only at hK ⊢
            obtain ⟨p5, -⟩ := hp
            replace p5 := p5 rfl
            dsimp only at p5
            rw [p5] at hK ⊢
            clear p5
            unfold RunsOp
            go_simp
            exact hK.out _ _ ⟨_, rfl, Only.refl _ _, rfl⟩
          · intro vals wr hR hp K hK
            dsimp only at hK ⊢
            obtain ⟨p6, p7, p5, -⟩ := hp
            replace p6 := p6 rfl
            replace p7 := p7 rfl
            replace p5 := p5 rfl
            dsimp only at p6 p7 p5
            rw [p6, p7, p5] at hK ⊢
            clear p6 p7 p5
            unfold RunsOp
            go_simp
            exact hK.out _ _ ⟨_, rfl, Only.refl _ _, rfl⟩
          · intro vals wr hR hp K hK
            dsimp only at hK ⊢
            obtain ⟨p8, p5, -⟩ := hp
            replace p8 := p8 rfl
            replace p5 := p5 rfl
            dsimp only at p8 p5
            rw [p8, p5] at hK ⊢
            clear p8 p5
            unfold RunsOp
            go_simp
            exact hK.out _ _ ⟨_, rfl, Only.refl _ _, rfl⟩
          · intro vals wr hR hp K hK
            dsimp only at hK ⊢
            obtain ⟨p5, -⟩ := hp
            replace p5 := p5 rfl
            dsimp only at p5
            rw [p5] at hK ⊢
            clear p5
            unfold RunsOp
            go_simp
            exact hK.out _ _ ⟨_, rfl, Only.refl _ _, rfl⟩
          · intro vals wr hR hp K hK
            dsimp only at hK ⊢
            obtain ⟨p9, p10, p5, -, -⟩ := hp
            replace p9 := p9 rfl
            replace p10 := p10 rfl
            replace p5 := p5 rfl
            dsimp only at p9 p10 p5
            rw [p9, p10, p5] at hK ⊢
            clear p9 p10 p5
            unfold RunsOp
            go_simp
            exact hK.out _ _ ⟨_, rfl, Only.refl _ _, rfl⟩
          · intro vals wr hR hp K hK
            dsimp only at hK ⊢
            obtain ⟨p11, p5, -⟩ := hp
            replace p11 := p11 rfl
            replace p5 := p5 rfl
            dsimp only at p11 p5
            rw [p11, p5] at hK ⊢
            clear p11 p5
            unfold RunsOp
            go_simp
            exact hK.out _ _ ⟨_, rfl, Only.refl _ _, rfl⟩
          · intro vals wr hR hp K hK
            dsimp only at hK ⊢
            obtain ⟨p5, p12, -⟩ := hp
            replace p5 := p5 rfl
            replace p12 := p12 rfl
            dsimp only at p5 p12
            rw [p5, p12] at hK ⊢
            clear p5 p12
            unfold RunsOp
            go_simp
            exact hK.out _ _ ⟨_, rfl, Only.refl _ _, rfl⟩
        case donefp =>
          intro vals wd hR hF
          have f13 : vals 13 = .bool false := hF 13 (by decide)
          rw [f13]
          have t0 := (hR.cell (p := ⟨b, o + k * 3, none⟩) hb4 (by simp)).trans HC0.out
          have t1 := (hR.cell (p := ⟨b, o + k * 3 + 1, none⟩) hb4 (by simp)).trans HC1.out
          have t2 := (hR.cell (p := ⟨b, o + k * 3 + 2, none⟩) hb4 (by simp)).trans HC2.out
          have M9 := hR.blk (Blk.drew HM.out) (by simp)
          have fm0 := M9.frozen 0
          have fm1 := M9.frozen 1
          have fm2 := M9.frozen 2
          obtain ⟨m0, m1, m2, ml⟩ := M9.facts3
          have HM9 := Lib.hid M9
          have HO9 := Lib.hid (HO.out.drew.trans hR (by simp))
          have HW9 := Lib.hid (ownsRow_only (w := w4) (Only.trans (Only.drew (Only.refl [] w4)) hR (by simp)) HW4.out (fun _ _ => by simp))
          clear hF f13 hR M9
          refine wpList_nil ?_
          go_wp2_with (fail)
          go_roundw
          case rel =>
            refine ⟨k + 1, some ⟨g, 0, none⟩, cap3, by go_num, by first | rfl | simp, by omega, ?_, ?_, HO9.out⟩
            · rw [HF.out]
              exact HW9.out
            · rw [HS.out, if_neg (by have := HY.out; omega)]
              exact HM9.out
          case measure => simp [intOf]; omega
    · obtain rfl : k = L.length := by omega
      rw [List.take_length] at hm how
      obtain ⟨hS, hA2⟩ := stamps_of_owns rfl how (fun s hs => by
        obtain ⟨i, hi, e⟩ := List.getElem_of_mem hs
        exact (HL.out i s (by rw [List.getElem?_eq_getElem hi, e])).1)
      obtain ⟨m, hmm⟩ : ∃ m, minS L = m := ⟨_, rfl⟩
      rw [hmm] at hm
      have hEQ := eq_st25T m
      have HM := Lib.hid hm
      have HO := Lib.hid ho
      have HS := Lib.hid hS
      have HA := Lib.hid hA2
      have HMM := Lib.hid hmm
      clear hm ho hS hA2 hmm how
      go_wp2_with (fail)
      refine wp_region_facts 6 [] (fr := ?frz) (tl := ?tlz) (fun i v wv => match i with
        | 0 => v = .slice A2 L.length c2
        | 1 => ∃ c, v = .func (.func 39) #[] #[.pointer (some ⟨c, 0, none⟩)] ∧ Blk wv c 48 #[.slice A2 L.length c2]
        | 2 => v = .agg #[.int .i64 m.1.1, .int .i64 m.1.2, .int .i64 m.2]
        | 3 => v = .agg #[.int .i64 m.1.1, .int .i64 m.1.2, .int .i64 m.2]
        | 4 => v = .agg #[.int .i64 m.1.1, .int .i64 m.1.2, .int .i64 m.2]
        | 5 => v = .bool true
        | _ => True) (by kernel_rfl) (by kernel_rfl) (by kernel_rfl) (by kernel_rfl) (by decide) ?htlz ?hfrz ?stabz ?stepsz ?donez
      case htlz => simp only [List.drop_succ_cons, List.drop_zero]; rfl
      case hfrz => intro vals; simp only [putAll, dstAt, Act.put, List.getElem?_toArray, List.getElem?_cons_zero, List.getElem?_cons_succ, Option.bind_some, List.setIfInBounds_toArray, List.set_cons_zero, List.set_cons_succ]; rfl
      case stabz =>
        intro i v wa wb h
        try dsimp only
        split <;> first | exact id | (exact fun ⟨c, e, hb⟩ => ⟨c, e, Only.blk h hb (by simp)⟩)
      case stepsz =>
        refine ⟨?_, ?_, ?_, ?_, ?_, ?_, trivial⟩
        · intro vals wr hR hp K hK
          dsimp only at hK ⊢
          clear hp
          unfold RunsOp
          go_simp
          exact hK.out _ _ ⟨_, rfl, Only.refl _ _, rfl⟩
        · intro vals wr hR hp K hK
          dsimp only at hK ⊢
          obtain ⟨p0, -⟩ := hp
          replace p0 := p0 rfl
          dsimp only at p0
          rw [p0] at hK ⊢
          clear p0
          unfold RunsOp
          go_simp
          refine (values_any A2 L.length c2 _).mono ?_
          rintro e w9 ⟨rfl, rfl⟩
          exact hK.out _ _ ⟨_, rfl, (Only.refl [] _).alloc _, _, rfl, Blk.new _ _ _⟩
        · intro vals wr hR hp K hK
          dsimp only at hK ⊢
          obtain ⟨p1, -, -⟩ := hp
          replace p1 := p1 rfl
          dsimp only at p1
          obtain ⟨c1, p1, hb1⟩ := p1
          rw [p1] at hK ⊢
          clear p1
          unfold RunsOp
          go_simp
          refine (least_any hl (fun p e => Nat.lt_of_lt_of_le (HA.out p e) hR.size) (HS.out.only (Only.trans (Only.drew (Only.refl [] _)) hR (by simp))) hb1).mono ?_
          rintro e w9 ⟨rfl, o9⟩
          rw [HMM.out]
          exact hK.out _ _ ⟨_, rfl, o9, rfl⟩
        · intro vals wr hR hp K hK
          dsimp only at hK ⊢
          obtain ⟨p2, -, -⟩ := hp
          replace p2 := p2 rfl
          dsimp only at p2
          obtain p2 := p2
          rw [p2] at hK ⊢
          clear p2
          unfold RunsOp
          go_simp
          refine (plain_any m _).mono ?_
          rintro e w2 ⟨rfl, o2⟩
          exact hK.out _ _ ⟨_, rfl, o2, rfl⟩
        · intro vals wr hR hp K hK
          dsimp only at hK ⊢
          clear hp
          unfold RunsOp
          have tb := hR.blk (Blk.drew HM.out) (by simp)
          obtain ⟨c0, c1, c2, cl⟩ := tb.facts3
          clear tb
          go_simp
          exact hK.out _ _ ⟨_, rfl, Only.refl _ _, rfl⟩
        · intro vals wr hR hp K hK
          dsimp only at hK ⊢
          obtain ⟨p3, p4, -⟩ := hp
          replace p3 := p3 rfl
          replace p4 := p4 rfl
          dsimp only at p3 p4
          obtain p3 := p3
          rw [p3, p4] at hK ⊢
          clear p3 p4
          unfold RunsOp
          go_simp
          exact hK.out _ _ ⟨_, rfl, Only.refl _ _, rfl⟩
      case donez =>
        intro vals wd hR hF
        have f5 : vals 5 = .bool true := hF 5 (by decide)
        rw [f5]
        have O9 := Lib.hid (HO.out.drew.trans hR (by simp))
        clear hF f5 hR
        go_wp2_with (fail)
        go_ret
        exact ⟨rfl, O9.out⟩

theorem stleast_any {A : Option Addr} {cap : Nat} {L : List St} {w : World} (hw : Tab10 w) (hL : Stamps w A L) (hlen : L.length ≤ 9223372036854775807) :
    Calls Tryd.prog 7 #[.slice A L.length cap] w fun e w' => e = .returned (.bool true) ∧ Only [] w w' := by
  by_cases hl : 1000 < L.length
  · exact stleast_many hw hl hlen
  · exact stleast_few hw hL (by omega)
end Go.Proofs.YtoefekgfklillaaDoor
