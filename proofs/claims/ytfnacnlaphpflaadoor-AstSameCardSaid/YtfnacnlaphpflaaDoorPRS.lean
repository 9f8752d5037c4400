/- The document's sameSets and the like. -/
import Derived.Test.YtfnacnlaphpflaaDoorPSame
import Derived.Test.YtfnacnlaphpflaaDoorTRefSame
import Derived.Test.YtfnacnlaphpflaaDoorRSame
namespace Go.Proofs.YtfnacnlaphpflaaDoor
open Go.RowKit Go.Kx
open Go.Val (Tt)
set_option maxRecDepth 100000
set_option maxHeartbeats 4000000 in
theorem rsames_Se {A B : Option Addr} {ca cb : Nat} {us vs : List Se} {w : World} (hA : RowX Se.cs 6 Se.Li w A us) (hB : RowX Se.cs 6 Se.Li w B vs) :
    Calls Tryd.prog 70 #[.slice A us.length ca, .slice B vs.length cb] w fun r w' => r = .returned (.bool (alikeG Se.same us vs)) ∧ Only [] w w' := by
  have hlA := hA.len
  have hlB := hB.len
  have HA := Lib.hid hA
  have HB := Lib.hid hB
  clear hA hB
  by_cases hl : us.length = vs.length
  · have e1 : ((us.length : Int) != (vs.length : Int)) = false := by simp [hl]
    have HL := Lib.hid hl
    rw [hl] at hlA e1 ⊢
    go_enter Tryd.func70, Tryd.ntmps70
    go_wp2_with (fail)
    go_loopw [5] (fun i wr => ∃ k : Nat, i = .int .i64 k ∧ k ≤ vs.length ∧ Hid (alikeG Se.same (us.take k) (vs.take k) = true) ∧ Hid (Only [] w wr)) (fun i _ => vs.length - (intOf i).toNat)
    case atStart => exact ⟨0, rfl, Nat.zero_le _, Lib.hid (by simp [alikeG]), Lib.hid (Only.refl _ _)⟩
    case round =>
      obtain ⟨k, rfl, hk, HP, HOr⟩ := hrel
      by_cases hlt : k < vs.length
      · obtain ⟨x, hx⟩ : ∃ e, us[k]? = some e := ⟨_, List.getElem?_eq_getElem (by have := HL.out; omega)⟩
        obtain ⟨y, hy⟩ : ∃ e, vs[k]? = some e := ⟨_, List.getElem?_eq_getElem hlt⟩
        have hLx := Se.Li.keep _ _ _ (HA.out.sub x (List.mem_of_getElem? hx)) HOr.out
        have hLy := Se.Li.keep _ _ _ (HB.out.sub y (List.mem_of_getElem? hy)) HOr.out
        have HTK := Lib.hid (alikeG_take (p := Se.same) HL.out hx hy)
        have HBAD := Lib.hid (alikeG_bad (p := Se.same) hx hy)
        have hrx := (HA.out.row k _ hx).keep HOr.out
        have hry := (HB.out.row k _ hy).keep HOr.out
        obtain ⟨xn, xeo, xen, xes, xeu, xeA, xec, xel⟩ := x
        obtain ⟨yn, yeo, yen, yes, yeu, yeA, yec, yel⟩ := y
        obtain ⟨ba, oa, rfl, hba, c0, c1, c2, c3, c4, c5⟩ := Se.at_cells hrx
        obtain ⟨bb, ob, rfl, hbb, d0, d1, d2, d3, d4, d5⟩ := Se.at_cells hry
        have HCX := Lib.hid (show ba < wr.heap.size ∧ wr.cell? ⟨ba, oa + k * 6, none⟩ = some (.string xn) ∧ wr.cell? ⟨ba, oa + k * 6 + 1, none⟩ = some (.int .i64 xeo) ∧ wr.cell? ⟨ba, oa + k * 6 + 2, none⟩ = some (.int .i64 xen) ∧ wr.cell? ⟨ba, oa + k * 6 + 3, none⟩ = some (.string xes) ∧ wr.cell? ⟨ba, oa + k * 6 + 4, none⟩ = some (.string xeu) ∧ wr.cell? ⟨ba, oa + k * 6 + 5, none⟩ = some (.slice xeA xel.length xec) from ⟨hba, c0, c1, c2, c3, c4, c5⟩)
        have HCY := Lib.hid (show bb < wr.heap.size ∧ wr.cell? ⟨bb, ob + k * 6, none⟩ = some (.string yn) ∧ wr.cell? ⟨bb, ob + k * 6 + 1, none⟩ = some (.int .i64 yeo) ∧ wr.cell? ⟨bb, ob + k * 6 + 2, none⟩ = some (.int .i64 yen) ∧ wr.cell? ⟨bb, ob + k * 6 + 3, none⟩ = some (.string yes) ∧ wr.cell? ⟨bb, ob + k * 6 + 4, none⟩ = some (.string yeu) ∧ wr.cell? ⟨bb, ob + k * 6 + 5, none⟩ = some (.slice yeA yel.length yec) from ⟨hbb, d0, d1, d2, d3, d4, d5⟩)
        obtain ⟨pe, hpe⟩ : ∃ pe, (Ex.mk xeo xen xes xeu xeA xec xel).tr.same (Ex.mk yeo yen yes yeu yeA yec yel).tr = pe := ⟨_, rfl⟩
        have HCA := Lib.hid (show ∀ W, Only [] wr W → Calls Tryd.prog 14 #[.agg #[.int .i64 xeo, .int .i64 xen, .string xes, .string xeu, .slice xeA xel.length xec], .agg #[.int .i64 yeo, .int .i64 yen, .string yes, .string yeu, .slice yeA yel.length yec]] W fun r w' => r = .returned (.bool pe) ∧ Only [] W w' from fun W o => by rw [← hpe]; exact rsame_any (.mk xeo xen xes xeu xeA xec xel) (.mk yeo yen yes yeu yeA yec yel) W (hLx.2.keep o) (hLy.2.keep o))
        have hki : (0 : Int) ≤ (k : Int) := by omega
        have hki2 : (k : Int) < (vs.length : Int) := by omega
        clear hx hy hLx hLy hrx hry c0 c1 c2 c3 c4 c5 d0 d1 d2 d3 d4 d5 hba hbb
        obtain ⟨wq, hwq⟩ : ∃ wq : World, wq = wr := ⟨_, rfl⟩
        subst hwq
        by_cases en : xn.toList = yn.toList
        · have HPE := Lib.hid (show Se.same (.mk xn xeo xen xes xeu xeA xec xel) (.mk yn yeo yen yes yeu yeA yec yel) = pe from by show (eqS xn yn && _) = pe; rw [show eqS xn yn = true from by simp [eqS, en]]; exact hpe)
          have EN := Lib.hid en
          clear en hpe
          go_wp2_with (fail)
          refine (wpIn_wide (n := 9)).1 ?_
          refine wpIn_region_relR 25 (Only []) (fr := ?frs1) (tl := ?tls1) (fun iq v wv => match iq with
            | 0 => v = .slice (some ⟨ba, oa, none⟩) vs.length ca
            | 1 => v = .int .i64 (k : Int)
            | 2 => v = .pointer (some ⟨ba, oa + k * 6, none⟩)
            | 3 => v = .pointer (some ⟨ba, oa + k * 6, none⟩)
            | 4 => v = .string xn
            | 5 => v = .slice (some ⟨bb, ob, none⟩) vs.length cb
            | 6 => v = .int .i64 (k : Int)
            | 7 => v = .pointer (some ⟨bb, ob + k * 6, none⟩)
            | 8 => v = .pointer (some ⟨bb, ob + k * 6, none⟩)
            | 9 => v = .string yn
            | 10 => v = .bool false
            | 11 => v = .bool false
            | 12 => v = .slice (some ⟨ba, oa, none⟩) vs.length ca
            | 13 => v = .int .i64 (k : Int)
            | 14 => v = .pointer (some ⟨ba, oa + k * 6, none⟩)
            | 15 => v = .pointer (some ⟨ba, oa + k * 6 + 1, none⟩)
            | 16 => v = .agg #[.int .i64 xeo, .int .i64 xen, .string xes, .string xeu, .slice xeA xel.length xec]
            | 17 => v = .slice (some ⟨bb, ob, none⟩) vs.length cb
            | 18 => v = .int .i64 (k : Int)
            | 19 => v = .pointer (some ⟨bb, ob + k * 6, none⟩)
            | 20 => v = .pointer (some ⟨bb, ob + k * 6 + 1, none⟩)
            | 21 => v = .agg #[.int .i64 yeo, .int .i64 yen, .string yes, .string yeu, .slice yeA yel.length yec]
            | 22 => v = .bool pe
            | 23 => v = .bool !pe
            | 24 => v = .bool !pe
            | _ => True) (.inl rfl) (by kernel_rfl) (by kernel_rfl) (by kernel_rfl) (by kernel_rfl) (by kernel_rfl) (by kernel_rfl) (by decide) ?htls1 ?hfrs1 (Only.refl _ _) (fun _ _ _ h k => h.trans k (fun _ hx => .inl hx)) ?stabs1 ?stepss1 ?dones1
          case htls1 => simp only [List.drop_succ_cons, List.drop_zero]; rfl
          case hfrs1 => intro vals; simp only [putAll, dstAt, Act.put, List.getElem?_toArray, List.getElem?_cons_zero, List.getElem?_cons_succ, Option.bind_some, List.setIfInBounds_toArray, List.set_cons_zero, List.set_cons_succ]; rfl
          case stabs1 =>
            intro i v wa wb h
            try dsimp only
            split <;> first | exact id
          case stepss1 =>
            refine ⟨?_, ?_, ?_, ?_, ?_, ?_, ?_, ?_, ?_, ?_, ?_, ?_, ?_, ?_, ?_, ?_, ?_, ?_, ?_, ?_, ?_, ?_, ?_, ?_, ?_, trivial⟩
            · intro vals wr hR hp K hK
              dsimp only at hK ⊢
              clear hp
              unfold RunsOp
              go_simp
              exact hK.out _ _ ⟨_, rfl, Only.refl _ _, rfl⟩
            · intro vals wr hR hp K hK
              dsimp only at hK ⊢
              clear hp
              unfold RunsOp
              go_simp
              exact hK.out _ _ ⟨_, rfl, Only.refl _ _, rfl⟩
            · intro vals wr hR hp K hK
              dsimp only at hK ⊢
              obtain ⟨p0, p1, -⟩ := hp
              replace p0 := p0 rfl
              replace p1 := p1 rfl
              dsimp only at p0 p1
              rw [p0, p1] at hK ⊢
              clear p0 p1
              unfold RunsOp
              go_simp
              exact hK.out _ _ ⟨_, rfl, Only.refl _ _, rfl⟩
            · intro vals wr hR hp K hK
              dsimp only at hK ⊢
              obtain ⟨p2, -⟩ := hp
              replace p2 := p2 rfl
              dsimp only at p2
              rw [p2] at hK ⊢
              clear p2
              unfold RunsOp
              go_simp
              exact hK.out _ _ ⟨_, rfl, Only.refl _ _, rfl⟩
            · intro vals wr hR hp K hK
              dsimp only at hK ⊢
              obtain ⟨p3, -⟩ := hp
              replace p3 := p3 rfl
              dsimp only at p3
              rw [p3] at hK ⊢
              clear p3
              unfold RunsOp
              have q0 := (hR.cell (p := ⟨ba, oa + k * 6, none⟩) HCX.out.1 (by simp)).trans HCX.out.2.1
              go_simp
              exact hK.out _ _ ⟨_, rfl, Only.refl _ _, rfl⟩
            · intro vals wr hR hp K hK
              dsimp only at hK ⊢
              clear hp
              unfold RunsOp
              go_simp
              exact hK.out _ _ ⟨_, rfl, Only.refl _ _, rfl⟩
            · intro vals wr hR hp K hK
              dsimp only at hK ⊢
              clear hp
              unfold RunsOp
              go_simp
              exact hK.out _ _ ⟨_, rfl, Only.refl _ _, rfl⟩
            · intro vals wr hR hp K hK
              dsimp only at hK ⊢
              obtain ⟨p5, p6, -⟩ := hp
              replace p5 := p5 rfl
              replace p6 := p6 rfl
              dsimp only at p5 p6
              rw [p5, p6] at hK ⊢
              clear p5 p6
              unfold RunsOp
              go_simp
              exact hK.out _ _ ⟨_, rfl, Only.refl _ _, rfl⟩
            · intro vals wr hR hp K hK
              dsimp only at hK ⊢
              obtain ⟨p7, -⟩ := hp
              replace p7 := p7 rfl
              dsimp only at p7
              rw [p7] at hK ⊢
              clear p7
              unfold RunsOp
              go_simp
              exact hK.out _ _ ⟨_, rfl, Only.refl _ _, rfl⟩
            · intro vals wr hR hp K hK
              dsimp only at hK ⊢
              obtain ⟨p8, -⟩ := hp
              replace p8 := p8 rfl
              dsimp only at p8
              rw [p8] at hK ⊢
              clear p8
              unfold RunsOp
              have q0 := (hR.cell (p := ⟨bb, ob + k * 6, none⟩) HCY.out.1 (by simp)).trans HCY.out.2.1
              go_simp
              exact hK.out _ _ ⟨_, rfl, Only.refl _ _, rfl⟩
            · intro vals wr hR hp K hK
              dsimp only at hK ⊢
              obtain ⟨p4, p9, -⟩ := hp
              replace p4 := p4 rfl
              replace p9 := p9 rfl
              dsimp only at p4 p9
              rw [p4, p9] at hK ⊢
              clear p4 p9
              unfold RunsOp
              have en := EN.out
              go_simp
              exact hK.out _ _ ⟨_, rfl, Only.refl _ _, rfl⟩
            · intro vals wr hR hp K hK
              dsimp only at hK ⊢
              obtain ⟨p10, -⟩ := hp
              replace p10 := p10 rfl
              dsimp only at p10
              rw [p10] at hK ⊢
              clear p10
              unfold RunsOp
              go_simp
              exact hK.out _ _ ⟨_, rfl, Only.refl _ _, rfl⟩
            · intro vals wr hR hp K hK
              dsimp only at hK ⊢
              obtain ⟨p11, -⟩ := hp
              replace p11 := p11 rfl
              dsimp only at p11
              rw [p11] at hK ⊢
              clear p11
              unfold RunsOp
              go_simp
              exact hK.out _ _ ⟨_, rfl, Only.refl _ _, rfl⟩
            · intro vals wr hR hp K hK
              dsimp only at hK ⊢
              obtain ⟨p11, -⟩ := hp
              replace p11 := p11 rfl
              dsimp only at p11
              rw [p11] at hK ⊢
              clear p11
              unfold RunsOp
              go_simp
              exact hK.out _ _ ⟨_, rfl, Only.refl _ _, rfl⟩
            · intro vals wr hR hp K hK
              dsimp only at hK ⊢
              obtain ⟨p12, p13, p11, -⟩ := hp
              replace p12 := p12 rfl
              replace p13 := p13 rfl
              replace p11 := p11 rfl
              dsimp only at p12 p13 p11
              rw [p12, p13, p11] at hK ⊢
              clear p12 p13 p11
              unfold RunsOp
              go_simp
              exact hK.out _ _ ⟨_, rfl, Only.refl _ _, rfl⟩
            · intro vals wr hR hp K hK
              dsimp only at hK ⊢
              obtain ⟨p14, p11, -⟩ := hp
              replace p14 := p14 rfl
              replace p11 := p11 rfl
              dsimp only at p14 p11
              rw [p14, p11] at hK ⊢
              clear p14 p11
              unfold RunsOp
              go_simp
              exact hK.out _ _ ⟨_, rfl, Only.refl _ _, rfl⟩
            · intro vals wr hR hp K hK
              dsimp only at hK ⊢
              obtain ⟨p15, p11, -⟩ := hp
              replace p15 := p15 rfl
              replace p11 := p11 rfl
              dsimp only at p15 p11
              rw [p15, p11] at hK ⊢
              clear p15 p11
              unfold RunsOp
              have q1 := (hR.cell (p := ⟨ba, oa + k * 6 + 1, none⟩) HCX.out.1 (by simp)).trans HCX.out.2.2.1
              have q2 := (hR.cell (p := ⟨ba, oa + k * 6 + 2, none⟩) HCX.out.1 (by simp)).trans HCX.out.2.2.2.1
              have q3 := (hR.cell (p := ⟨ba, oa + k * 6 + 3, none⟩) HCX.out.1 (by simp)).trans HCX.out.2.2.2.2.1
              have q4 := (hR.cell (p := ⟨ba, oa + k * 6 + 4, none⟩) HCX.out.1 (by simp)).trans HCX.out.2.2.2.2.2.1
              have q5 := (hR.cell (p := ⟨ba, oa + k * 6 + 5, none⟩) HCX.out.1 (by simp)).trans HCX.out.2.2.2.2.2.2
              go_simp
              exact hK.out _ _ ⟨_, rfl, Only.refl _ _, rfl⟩
            · intro vals wr hR hp K hK
              dsimp only at hK ⊢
              obtain ⟨p11, -⟩ := hp
              replace p11 := p11 rfl
              dsimp only at p11
              rw [p11] at hK ⊢
              clear p11
              unfold RunsOp
              go_simp
              exact hK.out _ _ ⟨_, rfl, Only.refl _ _, rfl⟩
            · intro vals wr hR hp K hK
              dsimp only at hK ⊢
              obtain ⟨p11, -⟩ := hp
              replace p11 := p11 rfl
              dsimp only at p11
              rw [p11] at hK ⊢
              clear p11
              unfold RunsOp
              go_simp
              exact hK.out _ _ ⟨_, rfl, Only.refl _ _, rfl⟩
            · intro vals wr hR hp K hK
              dsimp only at hK ⊢
              obtain ⟨p17, p18, p11, -⟩ := hp
              replace p17 := p17 rfl
              replace p18 := p18 rfl
              replace p11 := p11 rfl
              dsimp only at p17 p18 p11
              rw [p17, p18, p11] at hK ⊢
              clear p17 p18 p11
              unfold RunsOp
              go_simp
              exact hK.out _ _ ⟨_, rfl, Only.refl _ _, rfl⟩
            · intro vals wr hR hp K hK
              dsimp only at hK ⊢
              obtain ⟨p19, p11, -⟩ := hp
              replace p19 := p19 rfl
              replace p11 := p11 rfl
              dsimp only at p19 p11
              rw [p19, p11] at hK ⊢
              clear p19 p11
              unfold RunsOp
              go_simp
              exact hK.out _ _ ⟨_, rfl, Only.refl _ _, rfl⟩
            · intro vals wr hR hp K hK
              dsimp only at hK ⊢
              obtain ⟨p20, p11, -⟩ := hp
              replace p20 := p20 rfl
              replace p11 := p11 rfl
              dsimp only at p20 p11
              rw [p20, p11] at hK ⊢
              clear p20 p11
              unfold RunsOp
              have q1 := (hR.cell (p := ⟨bb, ob + k * 6 + 1, none⟩) HCY.out.1 (by simp)).trans HCY.out.2.2.1
              have q2 := (hR.cell (p := ⟨bb, ob + k * 6 + 2, none⟩) HCY.out.1 (by simp)).trans HCY.out.2.2.2.1
              have q3 := (hR.cell (p := ⟨bb, ob + k * 6 + 3, none⟩) HCY.out.1 (by simp)).trans HCY.out.2.2.2.2.1
              have q4 := (hR.cell (p := ⟨bb, ob + k * 6 + 4, none⟩) HCY.out.1 (by simp)).trans HCY.out.2.2.2.2.2.1
              have q5 := (hR.cell (p := ⟨bb, ob + k * 6 + 5, none⟩) HCY.out.1 (by simp)).trans HCY.out.2.2.2.2.2.2
              go_simp
              exact hK.out _ _ ⟨_, rfl, Only.refl _ _, rfl⟩
            · intro vals wr hR hp K hK
              dsimp only at hK ⊢
              obtain ⟨p16, p21, p11, -, -⟩ := hp
              replace p16 := p16 rfl
              replace p21 := p21 rfl
              replace p11 := p11 rfl
              dsimp only at p16 p21 p11
              rw [p16, p21, p11] at hK ⊢
              clear p16 p21 p11
              unfold RunsOp
              go_simp
              refine (HCA.out _ ((Only.refl [] _).drew.trans hR (by simp))).mono ?_
              rintro e' w2 ⟨rfl, o2⟩
              exact hK.out _ _ ⟨_, rfl, o2, rfl⟩
            · intro vals wr hR hp K hK
              dsimp only at hK ⊢
              obtain ⟨p22, p11, -⟩ := hp
              replace p22 := p22 rfl
              replace p11 := p11 rfl
              dsimp only at p22 p11
              rw [p22, p11] at hK ⊢
              clear p22 p11
              unfold RunsOp
              go_simp
              exact hK.out _ _ ⟨_, rfl, Only.refl _ _, rfl⟩
            · intro vals wr hR hp K hK
              dsimp only at hK ⊢
              obtain ⟨p11, p23, -⟩ := hp
              replace p11 := p11 rfl
              replace p23 := p23 rfl
              dsimp only at p11 p23
              rw [p11, p23] at hK ⊢
              clear p11 p23
              unfold RunsOp
              go_simp
              exact hK.out _ _ ⟨_, rfl, Only.refl _ _, rfl⟩
          case dones1 =>
            intro vals wd hR hF
            have f0 : vals 0 = .slice (some ⟨ba, oa, none⟩) vs.length ca := hF 0 (by decide)
            have f1 : vals 1 = .int .i64 (k : Int) := hF 1 (by decide)
            have f2 : vals 2 = .pointer (some ⟨ba, oa + k * 6, none⟩) := hF 2 (by decide)
            have f3 : vals 3 = .pointer (some ⟨ba, oa + k * 6, none⟩) := hF 3 (by decide)
            have f4 : vals 4 = .string xn := hF 4 (by decide)
            have f5 : vals 5 = .slice (some ⟨bb, ob, none⟩) vs.length cb := hF 5 (by decide)
            have f6 : vals 6 = .int .i64 (k : Int) := hF 6 (by decide)
            have f7 : vals 7 = .pointer (some ⟨bb, ob + k * 6, none⟩) := hF 7 (by decide)
            have f8 : vals 8 = .pointer (some ⟨bb, ob + k * 6, none⟩) := hF 8 (by decide)
            have f9 : vals 9 = .string yn := hF 9 (by decide)
            have f10 : vals 10 = .bool false := hF 10 (by decide)
            have f11 : vals 11 = .bool false := hF 11 (by decide)
            have f12 : vals 12 = .slice (some ⟨ba, oa, none⟩) vs.length ca := hF 12 (by decide)
            have f13 : vals 13 = .int .i64 (k : Int) := hF 13 (by decide)
            have f14 : vals 14 = .pointer (some ⟨ba, oa + k * 6, none⟩) := hF 14 (by decide)
            have f15 : vals 15 = .pointer (some ⟨ba, oa + k * 6 + 1, none⟩) := hF 15 (by decide)
            have f16 : vals 16 = .agg #[.int .i64 xeo, .int .i64 xen, .string xes, .string xeu, .slice xeA xel.length xec] := hF 16 (by decide)
            have f17 : vals 17 = .slice (some ⟨bb, ob, none⟩) vs.length cb := hF 17 (by decide)
            have f18 : vals 18 = .int .i64 (k : Int) := hF 18 (by decide)
            have f19 : vals 19 = .pointer (some ⟨bb, ob + k * 6, none⟩) := hF 19 (by decide)
            have f20 : vals 20 = .pointer (some ⟨bb, ob + k * 6 + 1, none⟩) := hF 20 (by decide)
            have f21 : vals 21 = .agg #[.int .i64 yeo, .int .i64 yen, .string yes, .string yeu, .slice yeA yel.length yec] := hF 21 (by decide)
            have f22 : vals 22 = .bool pe := hF 22 (by decide)
            have f23 : vals 23 = .bool !pe := hF 23 (by decide)
            have f24 : vals 24 = .bool !pe := hF 24 (by decide)
            rw [f0, f1, f2, f3, f4, f5, f6, f7, f8, f9, f10, f11, f12, f13, f14, f15, f16, f17, f18, f19, f20, f21, f22, f23, f24]
            clear f0 f1 f2 f3 f4 f5 f6 f7 f8 f9 f10 f11 f12 f13 f14 f15 f16 f17 f18 f19 f20 f21 f22 f23 f24
            have HO5 := Lib.hid (HOr.out.trans ((Only.refl [] _).drew.trans hR (by simp)) (by simp))
            clear hR hF
            gi_wp2_with (fail)
            cases pe
            · go_wp2_with (fail)
              go_ret
              exact ⟨by rw [HBAD.out HPE.out]; rfl, HO5.out⟩
            · go_wp2_with (fail)
              go_roundw
              case rel => exact ⟨k + 1, by go_num, by omega, Lib.hid (by rw [HTK.out, HP.out, HPE.out]; rfl), HO5⟩
              case measure => simp [intOf] <;> omega
        · have EN := Lib.hid en
          clear en hpe
          go_wp2_with (fail)
          refine (wpIn_wide (n := 9)).1 ?_
          refine wpIn_region_relR 25 (Only []) (fr := ?frs2) (tl := ?tls2) (fun iq v wv => match iq with
            | 0 => v = .slice (some ⟨ba, oa, none⟩) vs.length ca
            | 1 => v = .int .i64 (k : Int)
            | 2 => v = .pointer (some ⟨ba, oa + k * 6, none⟩)
            | 3 => v = .pointer (some ⟨ba, oa + k * 6, none⟩)
            | 4 => v = .string xn
            | 5 => v = .slice (some ⟨bb, ob, none⟩) vs.length cb
            | 6 => v = .int .i64 (k : Int)
            | 7 => v = .pointer (some ⟨bb, ob + k * 6, none⟩)
            | 8 => v = .pointer (some ⟨bb, ob + k * 6, none⟩)
            | 9 => v = .string yn
            | 10 => v = .bool true
            | 11 => v = .bool true
            | 24 => v = .bool true
            | _ => True) (.inl rfl) (by kernel_rfl) (by kernel_rfl) (by kernel_rfl) (by kernel_rfl) (by kernel_rfl) (by kernel_rfl) (by decide) ?htls2 ?hfrs2 (Only.refl _ _) (fun _ _ _ h k => h.trans k (fun _ hx => .inl hx)) ?stabs2 ?stepss2 ?dones2
          case htls2 => simp only [List.drop_succ_cons, List.drop_zero]; rfl
          case hfrs2 => intro vals; simp only [putAll, dstAt, Act.put, List.getElem?_toArray, List.getElem?_cons_zero, List.getElem?_cons_succ, Option.bind_some, List.setIfInBounds_toArray, List.set_cons_zero, List.set_cons_succ]; rfl
          case stabs2 =>
            intro i v wa wb h
            try dsimp only
            split <;> first | exact id
          case stepss2 =>
            refine ⟨?_, ?_, ?_, ?_, ?_, ?_, ?_, ?_, ?_, ?_, ?_, ?_, ?_, ?_, ?_, ?_, ?_, ?_, ?_, ?_, ?_, ?_, ?_, ?_, ?_, trivial⟩
            · intro vals wr hR hp K hK
              dsimp only at hK ⊢
              clear hp
              unfold RunsOp
              go_simp
              exact hK.out _ _ ⟨_, rfl, Only.refl _ _, rfl⟩
            · intro vals wr hR hp K hK
              dsimp only at hK ⊢
              clear hp
              unfold RunsOp
              go_simp
              exact hK.out _ _ ⟨_, rfl, Only.refl _ _, rfl⟩
            · intro vals wr hR hp K hK
              dsimp only at hK ⊢
              obtain ⟨p0, p1, -⟩ := hp
              replace p0 := p0 rfl
              replace p1 := p1 rfl
              dsimp only at p0 p1
              rw [p0, p1] at hK ⊢
              clear p0 p1
              unfold RunsOp
              go_simp
              exact hK.out _ _ ⟨_, rfl, Only.refl _ _, rfl⟩
            · intro vals wr hR hp K hK
              dsimp only at hK ⊢
              obtain ⟨p2, -⟩ := hp
              replace p2 := p2 rfl
              dsimp only at p2
              rw [p2] at hK ⊢
              clear p2
              unfold RunsOp
              go_simp
              exact hK.out _ _ ⟨_, rfl, Only.refl _ _, rfl⟩
            · intro vals wr hR hp K hK
              dsimp only at hK ⊢
              obtain ⟨p3, -⟩ := hp
              replace p3 := p3 rfl
              dsimp only at p3
              rw [p3] at hK ⊢
              clear p3
              unfold RunsOp
              have q0 := (hR.cell (p := ⟨ba, oa + k * 6, none⟩) HCX.out.1 (by simp)).trans HCX.out.2.1
              go_simp
              exact hK.out _ _ ⟨_, rfl, Only.refl _ _, rfl⟩
            · intro vals wr hR hp K hK
              dsimp only at hK ⊢
              clear hp
              unfold RunsOp
              go_simp
              exact hK.out _ _ ⟨_, rfl, Only.refl _ _, rfl⟩
            · intro vals wr hR hp K hK
              dsimp only at hK ⊢
              clear hp
              unfold RunsOp
              go_simp
              exact hK.out _ _ ⟨_, rfl, Only.refl _ _, rfl⟩
            · intro vals wr hR hp K hK
              dsimp only at hK ⊢
              obtain ⟨p5, p6, -⟩ := hp
              replace p5 := p5 rfl
              replace p6 := p6 rfl
              dsimp only at p5 p6
              rw [p5, p6] at hK ⊢
              clear p5 p6
              unfold RunsOp
              go_simp
              exact hK.out _ _ ⟨_, rfl, Only.refl _ _, rfl⟩
            · intro vals wr hR hp K hK
              dsimp only at hK ⊢
              obtain ⟨p7, -⟩ := hp
              replace p7 := p7 rfl
              dsimp only at p7
              rw [p7] at hK ⊢
              clear p7
              unfold RunsOp
              go_simp
              exact hK.out _ _ ⟨_, rfl, Only.refl _ _, rfl⟩
            · intro vals wr hR hp K hK
              dsimp only at hK ⊢
              obtain ⟨p8, -⟩ := hp
              replace p8 := p8 rfl
              dsimp only at p8
              rw [p8] at hK ⊢
              clear p8
              unfold RunsOp
              have q0 := (hR.cell (p := ⟨bb, ob + k * 6, none⟩) HCY.out.1 (by simp)).trans HCY.out.2.1
              go_simp
              exact hK.out _ _ ⟨_, rfl, Only.refl _ _, rfl⟩
            · intro vals wr hR hp K hK
              dsimp only at hK ⊢
              obtain ⟨p4, p9, -⟩ := hp
              replace p4 := p4 rfl
              replace p9 := p9 rfl
              dsimp only at p4 p9
              rw [p4, p9] at hK ⊢
              clear p4 p9
              unfold RunsOp
              have en : (xn.toList == yn.toList) = false := by simp [EN.out]
              go_simp
              exact hK.out _ _ ⟨_, rfl, Only.refl _ _, rfl⟩
            · intro vals wr hR hp K hK
              dsimp only at hK ⊢
              obtain ⟨p10, -⟩ := hp
              replace p10 := p10 rfl
              dsimp only at p10
              rw [p10] at hK ⊢
              clear p10
              unfold RunsOp
              go_simp
              exact hK.out _ _ ⟨_, rfl, Only.refl _ _, rfl⟩
            · intro vals wr hR hp K hK
              dsimp only at hK ⊢
              obtain ⟨p11, -⟩ := hp
              replace p11 := p11 rfl
              dsimp only at p11
              rw [p11] at hK ⊢
              clear p11
              unfold RunsOp
              go_simp
              exact hK.out _ _ ⟨_, rfl, Only.refl _ _, trivial⟩
            · intro vals wr hR hp K hK
              dsimp only at hK ⊢
              obtain ⟨p11, -⟩ := hp
              replace p11 := p11 rfl
              dsimp only at p11
              rw [p11] at hK ⊢
              clear p11
              unfold RunsOp
              go_simp
              exact hK.out _ _ ⟨_, rfl, Only.refl _ _, trivial⟩
            · intro vals wr hR hp K hK
              dsimp only at hK ⊢
              obtain ⟨-, -, p11, -⟩ := hp
              replace p11 := p11 rfl
              dsimp only at p11
              rw [p11] at hK ⊢
              clear p11
              unfold RunsOp
              go_simp
              exact hK.out _ _ ⟨_, rfl, Only.refl _ _, trivial⟩
            · intro vals wr hR hp K hK
              dsimp only at hK ⊢
              obtain ⟨-, p11, -⟩ := hp
              replace p11 := p11 rfl
              dsimp only at p11
              rw [p11] at hK ⊢
              clear p11
              unfold RunsOp
              go_simp
              exact hK.out _ _ ⟨_, rfl, Only.refl _ _, trivial⟩
            · intro vals wr hR hp K hK
              dsimp only at hK ⊢
              obtain ⟨-, p11, -⟩ := hp
              replace p11 := p11 rfl
              dsimp only at p11
              rw [p11] at hK ⊢
              clear p11
              unfold RunsOp
              go_simp
              exact hK.out _ _ ⟨_, rfl, Only.refl _ _, trivial⟩
            · intro vals wr hR hp K hK
              dsimp only at hK ⊢
              obtain ⟨p11, -⟩ := hp
              replace p11 := p11 rfl
              dsimp only at p11
              rw [p11] at hK ⊢
              clear p11
              unfold RunsOp
              go_simp
              exact hK.out _ _ ⟨_, rfl, Only.refl _ _, trivial⟩
            · intro vals wr hR hp K hK
              dsimp only at hK ⊢
              obtain ⟨p11, -⟩ := hp
              replace p11 := p11 rfl
              dsimp only at p11
              rw [p11] at hK ⊢
              clear p11
              unfold RunsOp
              go_simp
              exact hK.out _ _ ⟨_, rfl, Only.refl _ _, trivial⟩
            · intro vals wr hR hp K hK
              dsimp only at hK ⊢
              obtain ⟨-, -, p11, -⟩ := hp
              replace p11 := p11 rfl
              dsimp only at p11
              rw [p11] at hK ⊢
              clear p11
              unfold RunsOp
              go_simp
              exact hK.out _ _ ⟨_, rfl, Only.refl _ _, trivial⟩
            · intro vals wr hR hp K hK
              dsimp only at hK ⊢
              obtain ⟨-, p11, -⟩ := hp
              replace p11 := p11 rfl
              dsimp only at p11
              rw [p11] at hK ⊢
              clear p11
              unfold RunsOp
              go_simp
              exact hK.out _ _ ⟨_, rfl, Only.refl _ _, trivial⟩
            · intro vals wr hR hp K hK
              dsimp only at hK ⊢
              obtain ⟨-, p11, -⟩ := hp
              replace p11 := p11 rfl
              dsimp only at p11
              rw [p11] at hK ⊢
              clear p11
              unfold RunsOp
              go_simp
              exact hK.out _ _ ⟨_, rfl, Only.refl _ _, trivial⟩
            · intro vals wr hR hp K hK
              dsimp only at hK ⊢
              obtain ⟨-, -, p11, -, -⟩ := hp
              replace p11 := p11 rfl
              dsimp only at p11
              rw [p11] at hK ⊢
              clear p11
              unfold RunsOp
              go_simp
              exact hK.out _ _ ⟨_, rfl, Only.refl _ _, trivial⟩
            · intro vals wr hR hp K hK
              dsimp only at hK ⊢
              obtain ⟨-, p11, -⟩ := hp
              replace p11 := p11 rfl
              dsimp only at p11
              rw [p11] at hK ⊢
              clear p11
              unfold RunsOp
              go_simp
              exact hK.out _ _ ⟨_, rfl, Only.refl _ _, trivial⟩
            · intro vals wr hR hp K hK
              dsimp only at hK ⊢
              obtain ⟨p11, -, -⟩ := hp
              replace p11 := p11 rfl
              dsimp only at p11
              rw [p11] at hK ⊢
              clear p11
              unfold RunsOp
              go_simp
              exact hK.out _ _ ⟨_, rfl, Only.refl _ _, rfl⟩
          case dones2 =>
            intro vals wd hR hF
            have f0 : vals 0 = .slice (some ⟨ba, oa, none⟩) vs.length ca := hF 0 (by decide)
            have f1 : vals 1 = .int .i64 (k : Int) := hF 1 (by decide)
            have f2 : vals 2 = .pointer (some ⟨ba, oa + k * 6, none⟩) := hF 2 (by decide)
            have f3 : vals 3 = .pointer (some ⟨ba, oa + k * 6, none⟩) := hF 3 (by decide)
            have f4 : vals 4 = .string xn := hF 4 (by decide)
            have f5 : vals 5 = .slice (some ⟨bb, ob, none⟩) vs.length cb := hF 5 (by decide)
            have f6 : vals 6 = .int .i64 (k : Int) := hF 6 (by decide)
            have f7 : vals 7 = .pointer (some ⟨bb, ob + k * 6, none⟩) := hF 7 (by decide)
            have f8 : vals 8 = .pointer (some ⟨bb, ob + k * 6, none⟩) := hF 8 (by decide)
            have f9 : vals 9 = .string yn := hF 9 (by decide)
            have f10 : vals 10 = .bool true := hF 10 (by decide)
            have f11 : vals 11 = .bool true := hF 11 (by decide)
            have f24 : vals 24 = .bool true := hF 24 (by decide)
            rw [f0, f1, f2, f3, f4, f5, f6, f7, f8, f9, f10, f11, f24]
            clear f0 f1 f2 f3 f4 f5 f6 f7 f8 f9 f10 f11 f24
            have HO5 := Lib.hid (HOr.out.trans ((Only.refl [] _).drew.trans hR (by simp)) (by simp))
            clear hR hF
            gi_wp2_with (fail)
            go_wp2_with (fail)
            go_ret
            exact ⟨by rw [HBAD.out (by show (eqS xn yn && _) = false; simp [eqS, EN.out])]; rfl, HO5.out⟩
      · obtain rfl : k = vs.length := by omega
        have iz : ¬ (vs.length : Int) < (vs.length : Int) := by omega
        go_wp2_with (fail)
        go_ret
        exact ⟨by have := HP.out; rw [List.take_length, List.take_of_length_le (by have := HL.out; omega)] at this; rw [this]; rfl, HOr.out⟩
  · have e1 : ((us.length : Int) != (vs.length : Int)) = true := by simp; omega
    have HE := Lib.hid (alikeG_len (p := Se.same) hl)
    clear hl
    go_enter Tryd.func70, Tryd.ntmps70
    go_wp2_with (fail)
    go_ret
    exact ⟨by rw [HE.out]; rfl, Only.refl _ _⟩
set_option maxHeartbeats 4000000 in
theorem rsames_Po {A B : Option Addr} {ca cb : Nat} {us vs : List Po} {w : World} (hA : RowX Po.cs 3 Po.Li w A us) (hB : RowX Po.cs 3 Po.Li w B vs) :
    Calls Tryd.prog 69 #[.slice A us.length ca, .slice B vs.length cb] w fun r w' => r = .returned (.bool (alikeG Po.same us vs)) ∧ Only [] w w' := by
  have hlA := hA.len
  have hlB := hB.len
  have HA := Lib.hid hA
  have HB := Lib.hid hB
  clear hA hB
  by_cases hl : us.length = vs.length
  · have e1 : ((us.length : Int) != (vs.length : Int)) = false := by simp [hl]
    have HL := Lib.hid hl
    rw [hl] at hlA e1 ⊢
    go_enter Tryd.func69, Tryd.ntmps69
    go_wp2_with (fail)
    go_loopw [5] (fun i wr => ∃ k : Nat, i = .int .i64 k ∧ k ≤ vs.length ∧ Hid (alikeG Po.same (us.take k) (vs.take k) = true) ∧ Hid (Only [] w wr)) (fun i _ => vs.length - (intOf i).toNat)
    case atStart => exact ⟨0, rfl, Nat.zero_le _, Lib.hid (by simp [alikeG]), Lib.hid (Only.refl _ _)⟩
    case round =>
      obtain ⟨k, rfl, hk, HP, HOr⟩ := hrel
      by_cases hlt : k < vs.length
      · obtain ⟨x, hx⟩ : ∃ e, us[k]? = some e := ⟨_, List.getElem?_eq_getElem (by have := HL.out; omega)⟩
        obtain ⟨y, hy⟩ : ∃ e, vs[k]? = some e := ⟨_, List.getElem?_eq_getElem hlt⟩
        have hLx := Po.Li.keep _ _ _ (HA.out.sub x (List.mem_of_getElem? hx)) HOr.out
        have hLy := Po.Li.keep _ _ _ (HB.out.sub y (List.mem_of_getElem? hy)) HOr.out
        have HTK := Lib.hid (alikeG_take (p := Po.same) HL.out hx hy)
        have HBAD := Lib.hid (alikeG_bad (p := Po.same) hx hy)
        have hrx := (HA.out.row k _ hx).keep HOr.out
        have hry := (HB.out.row k _ hy).keep HOr.out
        obtain ⟨xn, xtk, xtA, xtc, xtl⟩ := x
        obtain ⟨yn, ytk, ytA, ytc, ytl⟩ := y
        obtain ⟨ba, oa, rfl, hba, c0, c1, c2⟩ := Po.at_cells hrx
        obtain ⟨bb, ob, rfl, hbb, d0, d1, d2⟩ := Po.at_cells hry
        have HCX := Lib.hid (show ba < wr.heap.size ∧ wr.cell? ⟨ba, oa + k * 3, none⟩ = some (.string xn) ∧ wr.cell? ⟨ba, oa + k * 3 + 1, none⟩ = some (.int .i64 xtk) ∧ wr.cell? ⟨ba, oa + k * 3 + 2, none⟩ = some (.slice xtA xtl.length xtc) from ⟨hba, c0, c1, c2⟩)
        have HCY := Lib.hid (show bb < wr.heap.size ∧ wr.cell? ⟨bb, ob + k * 3, none⟩ = some (.string yn) ∧ wr.cell? ⟨bb, ob + k * 3 + 1, none⟩ = some (.int .i64 ytk) ∧ wr.cell? ⟨bb, ob + k * 3 + 2, none⟩ = some (.slice ytA ytl.length ytc) from ⟨hbb, d0, d1, d2⟩)
        obtain ⟨pe, hpe⟩ : ∃ pe, (Tx.mk xtk xtA xtc xtl).tr.same (Tx.mk ytk ytA ytc ytl).tr = pe := ⟨_, rfl⟩
        have HCA := Lib.hid (show ∀ W, Only [] wr W → Calls Tryd.prog 85 #[.agg #[.int .i64 xtk, .slice xtA xtl.length xtc], .agg #[.int .i64 ytk, .slice ytA ytl.length ytc]] W fun r w' => r = .returned (.bool pe) ∧ Only [] W w' from fun W o => by rw [← hpe]; exact refsameT (.mk xtk xtA xtc xtl) (.mk ytk ytA ytc ytl) W (hLx.2.keep o) (hLy.2.keep o))
        have hki : (0 : Int) ≤ (k : Int) := by omega
        have hki2 : (k : Int) < (vs.length : Int) := by omega
        clear hx hy hLx hLy hrx hry c0 c1 c2 d0 d1 d2 hba hbb
        obtain ⟨wq, hwq⟩ : ∃ wq : World, wq = wr := ⟨_, rfl⟩
        subst hwq
        by_cases en : xn.toList = yn.toList
        · have HPE := Lib.hid (show Po.same (.mk xn xtk xtA xtc xtl) (.mk yn ytk ytA ytc ytl) = pe from by show (eqS xn yn && _) = pe; rw [show eqS xn yn = true from by simp [eqS, en]]; exact hpe)
          have EN := Lib.hid en
          clear en hpe
          go_wp2_with (fail)
          refine (wpIn_wide (n := 9)).1 ?_
          refine wpIn_region_relR 25 (Only []) (fr := ?frs1) (tl := ?tls1) (fun iq v wv => match iq with
            | 0 => v = .slice (some ⟨ba, oa, none⟩) vs.length ca
            | 1 => v = .int .i64 (k : Int)
            | 2 => v = .pointer (some ⟨ba, oa + k * 3, none⟩)
            | 3 => v = .pointer (some ⟨ba, oa + k * 3, none⟩)
            | 4 => v = .string xn
            | 5 => v = .slice (some ⟨bb, ob, none⟩) vs.length cb
            | 6 => v = .int .i64 (k : Int)
            | 7 => v = .pointer (some ⟨bb, ob + k * 3, none⟩)
            | 8 => v = .pointer (some ⟨bb, ob + k * 3, none⟩)
            | 9 => v = .string yn
            | 10 => v = .bool false
            | 11 => v = .bool false
            | 12 => v = .slice (some ⟨ba, oa, none⟩) vs.length ca
            | 13 => v = .int .i64 (k : Int)
            | 14 => v = .pointer (some ⟨ba, oa + k * 3, none⟩)
            | 15 => v = .pointer (some ⟨ba, oa + k * 3 + 1, none⟩)
            | 16 => v = .agg #[.int .i64 xtk, .slice xtA xtl.length xtc]
            | 17 => v = .slice (some ⟨bb, ob, none⟩) vs.length cb
            | 18 => v = .int .i64 (k : Int)
            | 19 => v = .pointer (some ⟨bb, ob + k * 3, none⟩)
            | 20 => v = .pointer (some ⟨bb, ob + k * 3 + 1, none⟩)
            | 21 => v = .agg #[.int .i64 ytk, .slice ytA ytl.length ytc]
            | 22 => v = .bool pe
            | 23 => v = .bool !pe
            | 24 => v = .bool !pe
            | _ => True) (.inl rfl) (by kernel_rfl) (by kernel_rfl) (by kernel_rfl) (by kernel_rfl) (by kernel_rfl) (by kernel_rfl) (by decide) ?htls1 ?hfrs1 (Only.refl _ _) (fun _ _ _ h k => h.trans k (fun _ hx => .inl hx)) ?stabs1 ?stepss1 ?dones1
          case htls1 => simp only [List.drop_succ_cons, List.drop_zero]; rfl
          case hfrs1 => intro vals; simp only [putAll, dstAt, Act.put, List.getElem?_toArray, List.getElem?_cons_zero, List.getElem?_cons_succ, Option.bind_some, List.setIfInBounds_toArray, List.set_cons_zero, List.set_cons_succ]; rfl
          case stabs1 =>
            intro i v wa wb h
            try dsimp only
            split <;> first | exact id
          case stepss1 =>
            refine ⟨?_, ?_, ?_, ?_, ?_, ?_, ?_, ?_, ?_, ?_, ?_, ?_, ?_, ?_, ?_, ?_, ?_, ?_, ?_, ?_, ?_, ?_, ?_, ?_, ?_, trivial⟩
            · intro vals wr hR hp K hK
              dsimp only at hK ⊢
              clear hp
              unfold RunsOp
              go_simp
              exact hK.out _ _ ⟨_, rfl, Only.refl _ _, rfl⟩
            · intro vals wr hR hp K hK
              dsimp only at hK ⊢
              clear hp
              unfold RunsOp
              go_simp
              exact hK.out _ _ ⟨_, rfl, Only.refl _ _, rfl⟩
            · intro vals wr hR hp K hK
              dsimp only at hK ⊢
              obtain ⟨p0, p1, -⟩ := hp
              replace p0 := p0 rfl
              replace p1 := p1 rfl
              dsimp only at p0 p1
              rw [p0, p1] at hK ⊢
              clear p0 p1
              unfold RunsOp
              go_simp
              exact hK.out _ _ ⟨_, rfl, Only.refl _ _, rfl⟩
            · intro vals wr hR hp K hK
              dsimp only at hK ⊢
              obtain ⟨p2, -⟩ := hp
              replace p2 := p2 rfl
              dsimp only at p2
              rw [p2] at hK ⊢
              clear p2
              unfold RunsOp
              go_simp
              exact hK.out _ _ ⟨_, rfl, Only.refl _ _, rfl⟩
            · intro vals wr hR hp K hK
              dsimp only at hK ⊢
              obtain ⟨p3, -⟩ := hp
              replace p3 := p3 rfl
              dsimp only at p3
              rw [p3] at hK ⊢
              clear p3
              unfold RunsOp
              have q0 := (hR.cell (p := ⟨ba, oa + k * 3, none⟩) HCX.out.1 (by simp)).trans HCX.out.2.1
              go_simp
              exact hK.out _ _ ⟨_, rfl, Only.refl _ _, rfl⟩
            · intro vals wr hR hp K hK
              dsimp only at hK ⊢
              clear hp
              unfold RunsOp
              go_simp
              exact hK.out _ _ ⟨_, rfl, Only.refl _ _, rfl⟩
            · intro vals wr hR hp K hK
              dsimp only at hK ⊢
              clear hp
              unfold RunsOp
              go_simp
              exact hK.out _ _ ⟨_, rfl, Only.refl _ _, rfl⟩
            · intro vals wr hR hp K hK
              dsimp only at hK ⊢
              obtain ⟨p5, p6, -⟩ := hp
              replace p5 := p5 rfl
              replace p6 := p6 rfl
              dsimp only at p5 p6
              rw [p5, p6] at hK ⊢
              clear p5 p6
              unfold RunsOp
              go_simp
              exact hK.out _ _ ⟨_, rfl, Only.refl _ _, rfl⟩
            · intro vals wr hR hp K hK
              dsimp only at hK ⊢
              obtain ⟨p7, -⟩ := hp
              replace p7 := p7 rfl
              dsimp only at p7
              rw [p7] at hK ⊢
              clear p7
              unfold RunsOp
              go_simp
              exact hK.out _ _ ⟨_, rfl, Only.refl _ _, rfl⟩
            · intro vals wr hR hp K hK
              dsimp only at hK ⊢
              obtain ⟨p8, -⟩ := hp
              replace p8 := p8 rfl
              dsimp only at p8
              rw [p8] at hK ⊢
              clear p8
              unfold RunsOp
              have q0 := (hR.cell (p := ⟨bb, ob + k * 3, none⟩) HCY.out.1 (by simp)).trans HCY.out.2.1
              go_simp
              exact hK.out _ _ ⟨_, rfl, Only.refl _ _, rfl⟩
            · intro vals wr hR hp K hK
              dsimp only at hK ⊢
              obtain ⟨p4, p9, -⟩ := hp
              replace p4 := p4 rfl
              replace p9 := p9 rfl
              dsimp only at p4 p9
              rw [p4, p9] at hK ⊢
              clear p4 p9
              unfold RunsOp
              have en := EN.out
              go_simp
              exact hK.out _ _ ⟨_, rfl, Only.refl _ _, rfl⟩
            · intro vals wr hR hp K hK
              dsimp only at hK ⊢
              obtain ⟨p10, -⟩ := hp
              replace p10 := p10 rfl
              dsimp only at p10
              rw [p10] at hK ⊢
              clear p10
              unfold RunsOp
              go_simp
              exact hK.out _ _ ⟨_, rfl, Only.refl _ _, rfl⟩
            · intro vals wr hR hp K hK
              dsimp only at hK ⊢
              obtain ⟨p11, -⟩ := hp
              replace p11 := p11 rfl
              dsimp only at p11
              rw [p11] at hK ⊢
              clear p11
              unfold RunsOp
              go_simp
              exact hK.out _ _ ⟨_, rfl, Only.refl _ _, rfl⟩
            · intro vals wr hR hp K hK
              dsimp only at hK ⊢
              obtain ⟨p11, -⟩ := hp
              replace p11 := p11 rfl
              dsimp only at p11
              rw [p11] at hK ⊢
              clear p11
              unfold RunsOp
              go_simp
              exact hK.out _ _ ⟨_, rfl, Only.refl _ _, rfl⟩
            · intro vals wr hR hp K hK
              dsimp only at hK ⊢
              obtain ⟨p12, p13, p11, -⟩ := hp
              replace p12 := p12 rfl
              replace p13 := p13 rfl
              replace p11 := p11 rfl
              dsimp only at p12 p13 p11
              rw [p12, p13, p11] at hK ⊢
              clear p12 p13 p11
              unfold RunsOp
              go_simp
              exact hK.out _ _ ⟨_, rfl, Only.refl _ _, rfl⟩
            · intro vals wr hR hp K hK
              dsimp only at hK ⊢
              obtain ⟨p14, p11, -⟩ := hp
              replace p14 := p14 rfl
              replace p11 := p11 rfl
              dsimp only at p14 p11
              rw [p14, p11] at hK ⊢
              clear p14 p11
              unfold RunsOp
              go_simp
              exact hK.out _ _ ⟨_, rfl, Only.refl _ _, rfl⟩
            · intro vals wr hR hp K hK
              dsimp only at hK ⊢
              obtain ⟨p15, p11, -⟩ := hp
              replace p15 := p15 rfl
              replace p11 := p11 rfl
              dsimp only at p15 p11
              rw [p15, p11] at hK ⊢
              clear p15 p11
              unfold RunsOp
              have q1 := (hR.cell (p := ⟨ba, oa + k * 3 + 1, none⟩) HCX.out.1 (by simp)).trans HCX.out.2.2.1
              have q2 := (hR.cell (p := ⟨ba, oa + k * 3 + 2, none⟩) HCX.out.1 (by simp)).trans HCX.out.2.2.2
              go_simp
              exact hK.out _ _ ⟨_, rfl, Only.refl _ _, rfl⟩
            · intro vals wr hR hp K hK
              dsimp only at hK ⊢
              obtain ⟨p11, -⟩ := hp
              replace p11 := p11 rfl
              dsimp only at p11
              rw [p11] at hK ⊢
              clear p11
              unfold RunsOp
              go_simp
              exact hK.out _ _ ⟨_, rfl, Only.refl _ _, rfl⟩
            · intro vals wr hR hp K hK
              dsimp only at hK ⊢
              obtain ⟨p11, -⟩ := hp
              replace p11 := p11 rfl
              dsimp only at p11
              rw [p11] at hK ⊢
              clear p11
              unfold RunsOp
              go_simp
              exact hK.out _ _ ⟨_, rfl, Only.refl _ _, rfl⟩
            · intro vals wr hR hp K hK
              dsimp only at hK ⊢
              obtain ⟨p17, p18, p11, -⟩ := hp
              replace p17 := p17 rfl
              replace p18 := p18 rfl
              replace p11 := p11 rfl
              dsimp only at p17 p18 p11
              rw [p17, p18, p11] at hK ⊢
              clear p17 p18 p11
              unfold RunsOp
              go_simp
              exact hK.out _ _ ⟨_, rfl, Only.refl _ _, rfl⟩
            · intro vals wr hR hp K hK
              dsimp only at hK ⊢
              obtain ⟨p19, p11, -⟩ := hp
              replace p19 := p19 rfl
              replace p11 := p11 rfl
              dsimp only at p19 p11
              rw [p19, p11] at hK ⊢
              clear p19 p11
              unfold RunsOp
              go_simp
              exact hK.out _ _ ⟨_, rfl, Only.refl _ _, rfl⟩
            · intro vals wr hR hp K hK
              dsimp only at hK ⊢
              obtain ⟨p20, p11, -⟩ := hp
              replace p20 := p20 rfl
              replace p11 := p11 rfl
              dsimp only at p20 p11
              rw [p20, p11] at hK ⊢
              clear p20 p11
              unfold RunsOp
              have q1 := (hR.cell (p := ⟨bb, ob + k * 3 + 1, none⟩) HCY.out.1 (by simp)).trans HCY.out.2.2.1
              have q2 := (hR.cell (p := ⟨bb, ob + k * 3 + 2, none⟩) HCY.out.1 (by simp)).trans HCY.out.2.2.2
              go_simp
              exact hK.out _ _ ⟨_, rfl, Only.refl _ _, rfl⟩
            · intro vals wr hR hp K hK
              dsimp only at hK ⊢
              obtain ⟨p16, p21, p11, -, -⟩ := hp
              replace p16 := p16 rfl
              replace p21 := p21 rfl
              replace p11 := p11 rfl
              dsimp only at p16 p21 p11
              rw [p16, p21, p11] at hK ⊢
              clear p16 p21 p11
              unfold RunsOp
              go_simp
              refine (HCA.out _ ((Only.refl [] _).drew.trans hR (by simp))).mono ?_
              rintro e' w2 ⟨rfl, o2⟩
              exact hK.out _ _ ⟨_, rfl, o2, rfl⟩
            · intro vals wr hR hp K hK
              dsimp only at hK ⊢
              obtain ⟨p22, p11, -⟩ := hp
              replace p22 := p22 rfl
              replace p11 := p11 rfl
              dsimp only at p22 p11
              rw [p22, p11] at hK ⊢
              clear p22 p11
              unfold RunsOp
              go_simp
              exact hK.out _ _ ⟨_, rfl, Only.refl _ _, rfl⟩
            · intro vals wr hR hp K hK
              dsimp only at hK ⊢
              obtain ⟨p11, p23, -⟩ := hp
              replace p11 := p11 rfl
              replace p23 := p23 rfl
              dsimp only at p11 p23
              rw [p11, p23] at hK ⊢
              clear p11 p23
              unfold RunsOp
              go_simp
              exact hK.out _ _ ⟨_, rfl, Only.refl _ _, rfl⟩
          case dones1 =>
            intro vals wd hR hF
            have f0 : vals 0 = .slice (some ⟨ba, oa, none⟩) vs.length ca := hF 0 (by decide)
            have f1 : vals 1 = .int .i64 (k : Int) := hF 1 (by decide)
            have f2 : vals 2 = .pointer (some ⟨ba, oa + k * 3, none⟩) := hF 2 (by decide)
            have f3 : vals 3 = .pointer (some ⟨ba, oa + k * 3, none⟩) := hF 3 (by decide)
            have f4 : vals 4 = .string xn := hF 4 (by decide)
            have f5 : vals 5 = .slice (some ⟨bb, ob, none⟩) vs.length cb := hF 5 (by decide)
            have f6 : vals 6 = .int .i64 (k : Int) := hF 6 (by decide)
            have f7 : vals 7 = .pointer (some ⟨bb, ob + k * 3, none⟩) := hF 7 (by decide)
            have f8 : vals 8 = .pointer (some ⟨bb, ob + k * 3, none⟩) := hF 8 (by decide)
            have f9 : vals 9 = .string yn := hF 9 (by decide)
            have f10 : vals 10 = .bool false := hF 10 (by decide)
            have f11 : vals 11 = .bool false := hF 11 (by decide)
            have f12 : vals 12 = .slice (some ⟨ba, oa, none⟩) vs.length ca := hF 12 (by decide)
            have f13 : vals 13 = .int .i64 (k : Int) := hF 13 (by decide)
            have f14 : vals 14 = .pointer (some ⟨ba, oa + k * 3, none⟩) := hF 14 (by decide)
            have f15 : vals 15 = .pointer (some ⟨ba, oa + k * 3 + 1, none⟩) := hF 15 (by decide)
            have f16 : vals 16 = .agg #[.int .i64 xtk, .slice xtA xtl.length xtc] := hF 16 (by decide)
            have f17 : vals 17 = .slice (some ⟨bb, ob, none⟩) vs.length cb := hF 17 (by decide)
            have f18 : vals 18 = .int .i64 (k : Int) := hF 18 (by decide)
            have f19 : vals 19 = .pointer (some ⟨bb, ob + k * 3, none⟩) := hF 19 (by decide)
            have f20 : vals 20 = .pointer (some ⟨bb, ob + k * 3 + 1, none⟩) := hF 20 (by decide)
            have f21 : vals 21 = .agg #[.int .i64 ytk, .slice ytA ytl.length ytc] := hF 21 (by decide)
            have f22 : vals 22 = .bool pe := hF 22 (by decide)
            have f23 : vals 23 = .bool !pe := hF 23 (by decide)
            have f24 : vals 24 = .bool !pe := hF 24 (by decide)
            rw [f0, f1, f2, f3, f4, f5, f6, f7, f8, f9, f10, f11, f12, f13, f14, f15, f16, f17, f18, f19, f20, f21, f22, f23, f24]
            clear f0 f1 f2 f3 f4 f5 f6 f7 f8 f9 f10 f11 f12 f13 f14 f15 f16 f17 f18 f19 f20 f21 f22 f23 f24
            have HO5 := Lib.hid (HOr.out.trans ((Only.refl [] _).drew.trans hR (by simp)) (by simp))
            clear hR hF
            gi_wp2_with (fail)
            cases pe
            · go_wp2_with (fail)
              go_ret
              exact ⟨by rw [HBAD.out HPE.out]; rfl, HO5.out⟩
            · go_wp2_with (fail)
              go_roundw
              case rel => exact ⟨k + 1, by go_num, by omega, Lib.hid (by rw [HTK.out, HP.out, HPE.out]; rfl), HO5⟩
              case measure => simp [intOf] <;> omega
        · have EN := Lib.hid en
          clear en hpe
          go_wp2_with (fail)
          refine (wpIn_wide (n := 9)).1 ?_
          refine wpIn_region_relR 25 (Only []) (fr := ?frs2) (tl := ?tls2) (fun iq v wv => match iq with
            | 0 => v = .slice (some ⟨ba, oa, none⟩) vs.length ca
            | 1 => v = .int .i64 (k : Int)
            | 2 => v = .pointer (some ⟨ba, oa + k * 3, none⟩)
            | 3 => v = .pointer (some ⟨ba, oa + k * 3, none⟩)
            | 4 => v = .string xn
            | 5 => v = .slice (some ⟨bb, ob, none⟩) vs.length cb
            | 6 => v = .int .i64 (k : Int)
            | 7 => v = .pointer (some ⟨bb, ob + k * 3, none⟩)
            | 8 => v = .pointer (some ⟨bb, ob + k * 3, none⟩)
            | 9 => v = .string yn
            | 10 => v = .bool true
            | 11 => v = .bool true
            | 24 => v = .bool true
            | _ => True) (.inl rfl) (by kernel_rfl) (by kernel_rfl) (by kernel_rfl) (by kernel_rfl) (by kernel_rfl) (by kernel_rfl) (by decide) ?htls2 ?hfrs2 (Only.refl _ _) (fun _ _ _ h k => h.trans k (fun _ hx => .inl hx)) ?stabs2 ?stepss2 ?dones2
          case htls2 => simp only [List.drop_succ_cons, List.drop_zero]; rfl
          case hfrs2 => intro vals; simp only [putAll, dstAt, Act.put, List.getElem?_toArray, List.getElem?_cons_zero, List.getElem?_cons_succ, Option.bind_some, List.setIfInBounds_toArray, List.set_cons_zero, List.set_cons_succ]; rfl
          case stabs2 =>
            intro i v wa wb h
            try dsimp only
            split <;> first | exact id
          case stepss2 =>
            refine ⟨?_, ?_, ?_, ?_, ?_, ?_, ?_, ?_, ?_, ?_, ?_, ?_, ?_, ?_, ?_, ?_, ?_, ?_, ?_, ?_, ?_, ?_, ?_, ?_, ?_, trivial⟩
            · intro vals wr hR hp K hK
              dsimp only at hK ⊢
              clear hp
              unfold RunsOp
              go_simp
              exact hK.out _ _ ⟨_, rfl, Only.refl _ _, rfl⟩
            · intro vals wr hR hp K hK
              dsimp only at hK ⊢
              clear hp
              unfold RunsOp
              go_simp
              exact hK.out _ _ ⟨_, rfl, Only.refl _ _, rfl⟩
            · intro vals wr hR hp K hK
              dsimp only at hK ⊢
              obtain ⟨p0, p1, -⟩ := hp
              replace p0 := p0 rfl
              replace p1 := p1 rfl
              dsimp only at p0 p1
              rw [p0, p1] at hK ⊢
              clear p0 p1
              unfold RunsOp
              go_simp
              exact hK.out _ _ ⟨_, rfl, Only.refl _ _, rfl⟩
            · intro vals wr hR hp K hK
              dsimp only at hK ⊢
              obtain ⟨p2, -⟩ := hp
              replace p2 := p2 rfl
              dsimp only at p2
              rw [p2] at hK ⊢
              clear p2
              unfold RunsOp
              go_simp
              exact hK.out _ _ ⟨_, rfl, Only.refl _ _, rfl⟩
            · intro vals wr hR hp K hK
              dsimp only at hK ⊢
              obtain ⟨p3, -⟩ := hp
              replace p3 := p3 rfl
              dsimp only at p3
              rw [p3] at hK ⊢
              clear p3
              unfold RunsOp
              have q0 := (hR.cell (p := ⟨ba, oa + k * 3, none⟩) HCX.out.1 (by simp)).trans HCX.out.2.1
              go_simp
              exact hK.out _ _ ⟨_, rfl, Only.refl _ _, rfl⟩
            · intro vals wr hR hp K hK
              dsimp only at hK ⊢
              clear hp
              unfold RunsOp
              go_simp
              exact hK.out _ _ ⟨_, rfl, Only.refl _ _, rfl⟩
            · intro vals wr hR hp K hK
              dsimp only at hK ⊢
              clear hp
              unfold RunsOp
              go_simp
              exact hK.out _ _ ⟨_, rfl, Only.refl _ _, rfl⟩
            · intro vals wr hR hp K hK
              dsimp only at hK ⊢
              obtain ⟨p5, p6, -⟩ := hp
              replace p5 := p5 rfl
              replace p6 := p6 rfl
              dsimp only at p5 p6
              rw [p5, p6] at hK ⊢
              clear p5 p6
              unfold RunsOp
              go_simp
              exact hK.out _ _ ⟨_, rfl, Only.refl _ _, rfl⟩
            · intro vals wr hR hp K hK
              dsimp only at hK ⊢
              obtain ⟨p7, -⟩ := hp
              replace p7 := p7 rfl
              dsimp only at p7
              rw [p7] at hK ⊢
              clear p7
              unfold RunsOp
              go_simp
              exact hK.out _ _ ⟨_, rfl, Only.refl _ _, rfl⟩
            · intro vals wr hR hp K hK
              dsimp only at hK ⊢
              obtain ⟨p8, -⟩ := hp
              replace p8 := p8 rfl
              dsimp only at p8
              rw [p8] at hK ⊢
              clear p8
              unfold RunsOp
              have q0 := (hR.cell (p := ⟨bb, ob + k * 3, none⟩) HCY.out.1 (by simp)).trans HCY.out.2.1
              go_simp
              exact hK.out _ _ ⟨_, rfl, Only.refl _ _, rfl⟩
            · intro vals wr hR hp K hK
              dsimp only at hK ⊢
              obtain ⟨p4, p9, -⟩ := hp
              replace p4 := p4 rfl
              replace p9 := p9 rfl
              dsimp only at p4 p9
              rw [p4, p9] at hK ⊢
              clear p4 p9
              unfold RunsOp
              have en : (xn.toList == yn.toList) = false := by simp [EN.out]
              go_simp
              exact hK.out _ _ ⟨_, rfl, Only.refl _ _, rfl⟩
            · intro vals wr hR hp K hK
              dsimp only at hK ⊢
              obtain ⟨p10, -⟩ := hp
              replace p10 := p10 rfl
              dsimp only at p10
              rw [p10] at hK ⊢
              clear p10
              unfold RunsOp
              go_simp
              exact hK.out _ _ ⟨_, rfl, Only.refl _ _, rfl⟩
            · intro vals wr hR hp K hK
              dsimp only at hK ⊢
              obtain ⟨p11, -⟩ := hp
              replace p11 := p11 rfl
              dsimp only at p11
              rw [p11] at hK ⊢
              clear p11
              unfold RunsOp
              go_simp
              exact hK.out _ _ ⟨_, rfl, Only.refl _ _, trivial⟩
            · intro vals wr hR hp K hK
              dsimp only at hK ⊢
              obtain ⟨p11, -⟩ := hp
              replace p11 := p11 rfl
              dsimp only at p11
              rw [p11] at hK ⊢
              clear p11
              unfold RunsOp
              go_simp
              exact hK.out _ _ ⟨_, rfl, Only.refl _ _, trivial⟩
            · intro vals wr hR hp K hK
              dsimp only at hK ⊢
              obtain ⟨-, -, p11, -⟩ := hp
              replace p11 := p11 rfl
              dsimp only at p11
              rw [p11] at hK ⊢
              clear p11
              unfold RunsOp
              go_simp
              exact hK.out _ _ ⟨_, rfl, Only.refl _ _, trivial⟩
            · intro vals wr hR hp K hK
              dsimp only at hK ⊢
              obtain ⟨-, p11, -⟩ := hp
              replace p11 := p11 rfl
              dsimp only at p11
              rw [p11] at hK ⊢
              clear p11
              unfold RunsOp
              go_simp
              exact hK.out _ _ ⟨_, rfl, Only.refl _ _, trivial⟩
            · intro vals wr hR hp K hK
              dsimp only at hK ⊢
              obtain ⟨-, p11, -⟩ := hp
              replace p11 := p11 rfl
              dsimp only at p11
              rw [p11] at hK ⊢
              clear p11
              unfold RunsOp
              go_simp
              exact hK.out _ _ ⟨_, rfl, Only.refl _ _, trivial⟩
            · intro vals wr hR hp K hK
              dsimp only at hK ⊢
              obtain ⟨p11, -⟩ := hp
              replace p11 := p11 rfl
              dsimp only at p11
              rw [p11] at hK ⊢
              clear p11
              unfold RunsOp
              go_simp
              exact hK.out _ _ ⟨_, rfl, Only.refl _ _, trivial⟩
            · intro vals wr hR hp K hK
              dsimp only at hK ⊢
              obtain ⟨p11, -⟩ := hp
              replace p11 := p11 rfl
              dsimp only at p11
              rw [p11] at hK ⊢
              clear p11
              unfold RunsOp
              go_simp
              exact hK.out _ _ ⟨_, rfl, Only.refl _ _, trivial⟩
            · intro vals wr hR hp K hK
              dsimp only at hK ⊢
              obtain ⟨-, -, p11, -⟩ := hp
              replace p11 := p11 rfl
              dsimp only at p11
              rw [p11] at hK ⊢
              clear p11
              unfold RunsOp
              go_simp
              exact hK.out _ _ ⟨_, rfl, Only.refl _ _, trivial⟩
            · intro vals wr hR hp K hK
              dsimp only at hK ⊢
              obtain ⟨-, p11, -⟩ := hp
              replace p11 := p11 rfl
              dsimp only at p11
              rw [p11] at hK ⊢
              clear p11
              unfold RunsOp
              go_simp
              exact hK.out _ _ ⟨_, rfl, Only.refl _ _, trivial⟩
            · intro vals wr hR hp K hK
              dsimp only at hK ⊢
              obtain ⟨-, p11, -⟩ := hp
              replace p11 := p11 rfl
              dsimp only at p11
              rw [p11] at hK ⊢
              clear p11
              unfold RunsOp
              go_simp
              exact hK.out _ _ ⟨_, rfl, Only.refl _ _, trivial⟩
            · intro vals wr hR hp K hK
              dsimp only at hK ⊢
              obtain ⟨-, -, p11, -, -⟩ := hp
              replace p11 := p11 rfl
              dsimp only at p11
              rw [p11] at hK ⊢
              clear p11
              unfold RunsOp
              go_simp
              exact hK.out _ _ ⟨_, rfl, Only.refl _ _, trivial⟩
            · intro vals wr hR hp K hK
              dsimp only at hK ⊢
              obtain ⟨-, p11, -⟩ := hp
              replace p11 := p11 rfl
              dsimp only at p11
              rw [p11] at hK ⊢
              clear p11
              unfold RunsOp
              go_simp
              exact hK.out _ _ ⟨_, rfl, Only.refl _ _, trivial⟩
            · intro vals wr hR hp K hK
              dsimp only at hK ⊢
              obtain ⟨p11, -, -⟩ := hp
              replace p11 := p11 rfl
              dsimp only at p11
              rw [p11] at hK ⊢
              clear p11
              unfold RunsOp
              go_simp
              exact hK.out _ _ ⟨_, rfl, Only.refl _ _, rfl⟩
          case dones2 =>
            intro vals wd hR hF
            have f0 : vals 0 = .slice (some ⟨ba, oa, none⟩) vs.length ca := hF 0 (by decide)
            have f1 : vals 1 = .int .i64 (k : Int) := hF 1 (by decide)
            have f2 : vals 2 = .pointer (some ⟨ba, oa + k * 3, none⟩) := hF 2 (by decide)
            have f3 : vals 3 = .pointer (some ⟨ba, oa + k * 3, none⟩) := hF 3 (by decide)
            have f4 : vals 4 = .string xn := hF 4 (by decide)
            have f5 : vals 5 = .slice (some ⟨bb, ob, none⟩) vs.length cb := hF 5 (by decide)
            have f6 : vals 6 = .int .i64 (k : Int) := hF 6 (by decide)
            have f7 : vals 7 = .pointer (some ⟨bb, ob + k * 3, none⟩) := hF 7 (by decide)
            have f8 : vals 8 = .pointer (some ⟨bb, ob + k * 3, none⟩) := hF 8 (by decide)
            have f9 : vals 9 = .string yn := hF 9 (by decide)
            have f10 : vals 10 = .bool true := hF 10 (by decide)
            have f11 : vals 11 = .bool true := hF 11 (by decide)
            have f24 : vals 24 = .bool true := hF 24 (by decide)
            rw [f0, f1, f2, f3, f4, f5, f6, f7, f8, f9, f10, f11, f24]
            clear f0 f1 f2 f3 f4 f5 f6 f7 f8 f9 f10 f11 f24
            have HO5 := Lib.hid (HOr.out.trans ((Only.refl [] _).drew.trans hR (by simp)) (by simp))
            clear hR hF
            gi_wp2_with (fail)
            go_wp2_with (fail)
            go_ret
            exact ⟨by rw [HBAD.out (by show (eqS xn yn && _) = false; simp [eqS, EN.out])]; rfl, HO5.out⟩
      · obtain rfl : k = vs.length := by omega
        have iz : ¬ (vs.length : Int) < (vs.length : Int) := by omega
        go_wp2_with (fail)
        go_ret
        exact ⟨by have := HP.out; rw [List.take_length, List.take_of_length_le (by have := HL.out; omega)] at this; rw [this]; rfl, HOr.out⟩
  · have e1 : ((us.length : Int) != (vs.length : Int)) = true := by simp; omega
    have HE := Lib.hid (alikeG_len (p := Po.same) hl)
    clear hl
    go_enter Tryd.func69, Tryd.ntmps69
    go_wp2_with (fail)
    go_ret
    exact ⟨by rw [HE.out]; rfl, Only.refl _ _⟩
set_option maxHeartbeats 4000000 in
theorem rsames_Ex {A B : Option Addr} {ca cb : Nat} {us vs : List Ex} {w : World} (hA : RowL w A us) (hB : RowL w B vs) :
    Calls Tryd.prog 71 #[.slice A us.length ca, .slice B vs.length cb] w fun r w' => r = .returned (.bool (exsB us vs)) ∧ Only [] w w' := by
  have hlA := hA.len
  have hlB := hB.len
  have HA := Lib.hid hA
  have HB := Lib.hid hB
  clear hA hB
  by_cases hl : us.length = vs.length
  · have e1 : ((us.length : Int) != (vs.length : Int)) = false := by simp [hl]
    have HL := Lib.hid hl
    rw [hl] at hlA e1 ⊢
    go_enter Tryd.func71, Tryd.ntmps71
    go_wp2_with (fail)
    go_loopw [5] (fun i wr => ∃ k : Nat, i = .int .i64 k ∧ k ≤ vs.length ∧ Hid (alikeP (fun a b : Ex => a.tr.same b.tr) (us.take k) (vs.take k) = true) ∧ Hid (Only [] w wr)) (fun i _ => vs.length - (intOf i).toNat)
    case atStart => exact ⟨0, rfl, Nat.zero_le _, Lib.hid (by simp [alikeP]), Lib.hid (Only.refl _ _)⟩
    case round =>
      obtain ⟨k, rfl, hk, HP, HOr⟩ := hrel
      by_cases hlt : k < vs.length
      · obtain ⟨x, hx⟩ : ∃ e, us[k]? = some e := ⟨_, List.getElem?_eq_getElem (by have := HL.out; omega)⟩
        obtain ⟨y, hy⟩ : ∃ e, vs[k]? = some e := ⟨_, List.getElem?_eq_getElem hlt⟩
        have hLx := (HA.out.sub x (List.mem_of_getElem? hx)).keep HOr.out
        have hLy := (HB.out.sub y (List.mem_of_getElem? hy)).keep HOr.out
        have HTK := Lib.hid (alikeP_take (p := (fun a b : Ex => a.tr.same b.tr)) HL.out hx hy)
        have HBAD := Lib.hid (alikeP_bad (p := (fun a b : Ex => a.tr.same b.tr)) hx hy)
        have hrx := (HA.out.row k _ hx).only HOr.out (by simp)
        have hry := (HB.out.row k _ hy).only HOr.out (by simp)
        have hcall := fun W (o : Only [] wr W) => rsame_any x y W (hLx.keep o) (hLy.keep o)
        obtain ⟨pe, hpe⟩ : ∃ pe, x.tr.same y.tr = pe := ⟨_, rfl⟩
        simp only [hpe] at hcall HTK HBAD
        obtain ⟨xo, xn, xs, xu, xA, xc, xl⟩ := x
        obtain ⟨yo, yn, ys, yu, yA, yc, yl⟩ := y
        obtain ⟨ba, oa, rfl, hba, c0, c1, c2, c3, c4⟩ := hrx.cells
        obtain ⟨bb, ob, rfl, hbb, d0, d1, d2, d3, d4⟩ := hry.cells
        have HCX := Lib.hid (show ba < wr.heap.size ∧ wr.cell? ⟨ba, oa + k * 5, none⟩ = some (.int .i64 xo) ∧ wr.cell? ⟨ba, oa + k * 5 + 1, none⟩ = some (.int .i64 xn) ∧ wr.cell? ⟨ba, oa + k * 5 + 2, none⟩ = some (.string xs) ∧ wr.cell? ⟨ba, oa + k * 5 + 3, none⟩ = some (.string xu) ∧ wr.cell? ⟨ba, oa + k * 5 + 4, none⟩ = some (.slice xA xl.length xc) from ⟨hba, c0, c1, c2, c3, c4⟩)
        have HCY := Lib.hid (show bb < wr.heap.size ∧ wr.cell? ⟨bb, ob + k * 5, none⟩ = some (.int .i64 yo) ∧ wr.cell? ⟨bb, ob + k * 5 + 1, none⟩ = some (.int .i64 yn) ∧ wr.cell? ⟨bb, ob + k * 5 + 2, none⟩ = some (.string ys) ∧ wr.cell? ⟨bb, ob + k * 5 + 3, none⟩ = some (.string yu) ∧ wr.cell? ⟨bb, ob + k * 5 + 4, none⟩ = some (.slice yA yl.length yc) from ⟨hbb, d0, d1, d2, d3, d4⟩)
        have HCA := Lib.hid (show ∀ W, Only [] wr W → Calls Tryd.prog 14 #[.agg #[.int .i64 xo, .int .i64 xn, .string xs, .string xu, .slice xA xl.length xc], .agg #[.int .i64 yo, .int .i64 yn, .string ys, .string yu, .slice yA yl.length yc]] W fun r w' => r = .returned (.bool pe) ∧ Only [] W w' from hcall)
        have hki : (0 : Int) ≤ (k : Int) := by omega
        have hki2 : (k : Int) < (vs.length : Int) := by omega
        clear hx hy hLx hLy hrx hry hcall hpe c0 c1 c2 c3 c4 d0 d1 d2 d3 d4 hba hbb
        obtain ⟨wq, hwq⟩ : ∃ wq : World, wq = wr := ⟨_, rfl⟩
        subst hwq
        go_wp2_with (fail)
        refine (wpIn_wide (n := 9)).1 ?_
        refine wpIn_region_relR 10 (Only []) (fr := ?frs3) (tl := ?tls3) (fun iq v wv => match iq with
          | 0 => v = .slice (some ⟨ba, oa, none⟩) vs.length ca
          | 1 => v = .int .i64 (k : Int)
          | 2 => v = .pointer (some ⟨ba, oa + k * 5, none⟩)
          | 3 => v = .agg #[.int .i64 xo, .int .i64 xn, .string xs, .string xu, .slice xA xl.length xc]
          | 4 => v = .slice (some ⟨bb, ob, none⟩) vs.length cb
          | 5 => v = .int .i64 (k : Int)
          | 6 => v = .pointer (some ⟨bb, ob + k * 5, none⟩)
          | 7 => v = .agg #[.int .i64 yo, .int .i64 yn, .string ys, .string yu, .slice yA yl.length yc]
          | 8 => v = .bool pe
          | 9 => v = .bool !pe
          | _ => True) (.inl rfl) (by kernel_rfl) (by kernel_rfl) (by kernel_rfl) (by kernel_rfl) (by kernel_rfl) (by kernel_rfl) (by decide) ?htls3 ?hfrs3 (Only.refl _ _) (fun _ _ _ h k => h.trans k (fun _ hx => .inl hx)) ?stabs3 ?stepss3 ?dones3
        case htls3 => simp only [List.drop_succ_cons, List.drop_zero]; rfl
        case hfrs3 => intro vals; simp only [putAll, dstAt, Act.put, List.getElem?_toArray, List.getElem?_cons_zero, List.getElem?_cons_succ, Option.bind_some, List.setIfInBounds_toArray, List.set_cons_zero, List.set_cons_succ]; rfl
        case stabs3 =>
          intro i v wa wb h
          try dsimp only
          split <;> first | exact id
        case stepss3 =>
          refine ⟨?_, ?_, ?_, ?_, ?_, ?_, ?_, ?_, ?_, ?_, trivial⟩
          · intro vals wr hR hp K hK
            dsimp only at hK ⊢
            clear hp
            unfold RunsOp
            go_simp
            exact hK.out _ _ ⟨_, rfl, Only.refl _ _, rfl⟩
          · intro vals wr hR hp K hK
            dsimp only at hK ⊢
            clear hp
            unfold RunsOp
            go_simp
            exact hK.out _ _ ⟨_, rfl, Only.refl _ _, rfl⟩
          · intro vals wr hR hp K hK
            dsimp only at hK ⊢
            obtain ⟨p0, p1, -⟩ := hp
            replace p0 := p0 rfl
            replace p1 := p1 rfl
            dsimp only at p0 p1
            rw [p0, p1] at hK ⊢
            clear p0 p1
            unfold RunsOp
            go_simp
            exact hK.out _ _ ⟨_, rfl, Only.refl _ _, rfl⟩
          · intro vals wr hR hp K hK
            dsimp only at hK ⊢
            obtain ⟨p2, -⟩ := hp
            replace p2 := p2 rfl
            dsimp only at p2
            rw [p2] at hK ⊢
            clear p2
            unfold RunsOp
            have q0 := (hR.cell (p := ⟨ba, oa + k * 5, none⟩) HCX.out.1 (by simp)).trans HCX.out.2.1
            have q1 := (hR.cell (p := ⟨ba, oa + k * 5 + 1, none⟩) HCX.out.1 (by simp)).trans HCX.out.2.2.1
            have q2 := (hR.cell (p := ⟨ba, oa + k * 5 + 2, none⟩) HCX.out.1 (by simp)).trans HCX.out.2.2.2.1
            have q3 := (hR.cell (p := ⟨ba, oa + k * 5 + 3, none⟩) HCX.out.1 (by simp)).trans HCX.out.2.2.2.2.1
            have q4 := (hR.cell (p := ⟨ba, oa + k * 5 + 4, none⟩) HCX.out.1 (by simp)).trans HCX.out.2.2.2.2.2
            go_simp
            exact hK.out _ _ ⟨_, rfl, Only.refl _ _, rfl⟩
          · intro vals wr hR hp K hK
            dsimp only at hK ⊢
            clear hp
            unfold RunsOp
            go_simp
            exact hK.out _ _ ⟨_, rfl, Only.refl _ _, rfl⟩
          · intro vals wr hR hp K hK
            dsimp only at hK ⊢
            clear hp
            unfold RunsOp
            go_simp
            exact hK.out _ _ ⟨_, rfl, Only.refl _ _, rfl⟩
          · intro vals wr hR hp K hK
            dsimp only at hK ⊢
            obtain ⟨p4, p5, -⟩ := hp
            replace p4 := p4 rfl
            replace p5 := p5 rfl
            dsimp only at p4 p5
            rw [p4, p5] at hK ⊢
            clear p4 p5
            unfold RunsOp
            go_simp
            exact hK.out _ _ ⟨_, rfl, Only.refl _ _, rfl⟩
          · intro vals wr hR hp K hK
            dsimp only at hK ⊢
            obtain ⟨p6, -⟩ := hp
            replace p6 := p6 rfl
            dsimp only at p6
            rw [p6] at hK ⊢
            clear p6
            unfold RunsOp
            have q0 := (hR.cell (p := ⟨bb, ob + k * 5, none⟩) HCY.out.1 (by simp)).trans HCY.out.2.1
            have q1 := (hR.cell (p := ⟨bb, ob + k * 5 + 1, none⟩) HCY.out.1 (by simp)).trans HCY.out.2.2.1
            have q2 := (hR.cell (p := ⟨bb, ob + k * 5 + 2, none⟩) HCY.out.1 (by simp)).trans HCY.out.2.2.2.1
            have q3 := (hR.cell (p := ⟨bb, ob + k * 5 + 3, none⟩) HCY.out.1 (by simp)).trans HCY.out.2.2.2.2.1
            have q4 := (hR.cell (p := ⟨bb, ob + k * 5 + 4, none⟩) HCY.out.1 (by simp)).trans HCY.out.2.2.2.2.2
            go_simp
            exact hK.out _ _ ⟨_, rfl, Only.refl _ _, rfl⟩
          · intro vals wr hR hp K hK
            dsimp only at hK ⊢
            obtain ⟨p3, p7, -⟩ := hp
            replace p3 := p3 rfl
            replace p7 := p7 rfl
            dsimp only at p3 p7
            rw [p3, p7] at hK ⊢
            clear p3 p7
            unfold RunsOp
            go_simp
            refine (HCA.out _ ((Only.refl [] _).drew.trans hR (by simp))).mono ?_
            rintro e' w2 ⟨rfl, o2⟩
            exact hK.out _ _ ⟨_, rfl, o2, rfl⟩
          · intro vals wr hR hp K hK
            dsimp only at hK ⊢
            obtain ⟨p8, -⟩ := hp
            replace p8 := p8 rfl
            dsimp only at p8
            rw [p8] at hK ⊢
            clear p8
            unfold RunsOp
            go_simp
            exact hK.out _ _ ⟨_, rfl, Only.refl _ _, rfl⟩
        case dones3 =>
          intro vals wd hR hF
          have f0 : vals 0 = .slice (some ⟨ba, oa, none⟩) vs.length ca := hF 0 (by decide)
          have f1 : vals 1 = .int .i64 (k : Int) := hF 1 (by decide)
          have f2 : vals 2 = .pointer (some ⟨ba, oa + k * 5, none⟩) := hF 2 (by decide)
          have f3 : vals 3 = .agg #[.int .i64 xo, .int .i64 xn, .string xs, .string xu, .slice xA xl.length xc] := hF 3 (by decide)
          have f4 : vals 4 = .slice (some ⟨bb, ob, none⟩) vs.length cb := hF 4 (by decide)
          have f5 : vals 5 = .int .i64 (k : Int) := hF 5 (by decide)
          have f6 : vals 6 = .pointer (some ⟨bb, ob + k * 5, none⟩) := hF 6 (by decide)
          have f7 : vals 7 = .agg #[.int .i64 yo, .int .i64 yn, .string ys, .string yu, .slice yA yl.length yc] := hF 7 (by decide)
          have f8 : vals 8 = .bool pe := hF 8 (by decide)
          have f9 : vals 9 = .bool !pe := hF 9 (by decide)
          rw [f0, f1, f2, f3, f4, f5, f6, f7, f8, f9]
          clear f0 f1 f2 f3 f4 f5 f6 f7 f8 f9
          have HO5 := Lib.hid (HOr.out.trans ((Only.refl [] _).drew.trans hR (by simp)) (by simp))
          clear hR hF
          gi_wp2_with (fail)
          cases pe
          · go_wp2_with (fail)
            go_ret
            exact ⟨by rw [exsB, HBAD.out (by first | rfl | trivial)]; rfl, HO5.out⟩
          · go_wp2_with (fail)
            go_roundw
            case rel => exact ⟨k + 1, by go_num, by omega, Lib.hid (by rw [HTK.out, HP.out]; rfl), HO5⟩
            case measure => simp [intOf] <;> omega
      · obtain rfl : k = vs.length := by omega
        have iz : ¬ (vs.length : Int) < (vs.length : Int) := by omega
        go_wp2_with (fail)
        go_ret
        exact ⟨by have := HP.out; rw [List.take_length, List.take_of_length_le (by have := HL.out; omega)] at this; rw [exsB, this]; rfl, HOr.out⟩
  · have e1 : ((us.length : Int) != (vs.length : Int)) = true := by simp; omega
    have HE := Lib.hid (show exsB us vs = false from alikeP_len hl)
    clear hl
    go_enter Tryd.func71, Tryd.ntmps71
    go_wp2_with (fail)
    go_ret
    exact ⟨by rw [HE.out]; rfl, Only.refl _ _⟩
end Go.Proofs.YtfnacnlaphpflaaDoor
