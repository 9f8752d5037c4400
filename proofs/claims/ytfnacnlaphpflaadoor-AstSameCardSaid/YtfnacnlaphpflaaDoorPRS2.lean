/- The document's Same. -/
import Derived.Test.YtfnacnlaphpflaaDoorPRM
namespace Go.Proofs.YtfnacnlaphpflaaDoor
open Go.RowKit Go.Kx
open Go.Val (Tt)
set_option maxRecDepth 100000
set_option maxHeartbeats 8000000 in
theorem rsameprog_any {A B : Option Addr} {c d : Nat} {us vs : List Md} {r s : ByteArray} {w : World} (hA : RowX Md.cs 14 Md.Li w A us) (hB : RowX Md.cs 14 Md.Li w B vs) :
    Calls Tryd.prog 26 #[.agg #[.slice A us.length c, .string r], .agg #[.slice B vs.length d, .string s]] w fun e w' => e = .returned (.bool (sameP us vs r s)) ∧ Only [] w w' := by
  have hlA := hA.len
  have hlB := hB.len
  have HA := Lib.hid hA
  have HB := Lib.hid hB
  have HE := Lib.hid (show sameP us vs r s = (eqS r s && alikeG Md.same us vs) from rfl)
  clear hA hB
  rw [HE.out]
  have h0 := Blk.new w 39 #[.slice A us.length c, .string r]
  have h1 := Blk.new (w.alloc (.cells #[.slice A us.length c, .string r] 39)) 39 #[.slice B vs.length d, .string s]
  simp only [World.size_alloc] at h1
  have HX0 := Lib.hid (show Blk ((w.alloc (.cells #[.slice A us.length c, .string r] 39)).alloc (.cells #[.slice B vs.length d, .string s] 39)) w.heap.size 39 #[.slice A us.length c, .string r] from h0.alloc _)
  have HY0 := Lib.hid h1
  have HO0 := Lib.hid (show Only [] w ((w.alloc (.cells #[.slice A us.length c, .string r] 39)).alloc (.cells #[.slice B vs.length d, .string s] 39)) from ((Only.refl [] w).alloc _).alloc _)
  clear h0 h1 HE
  by_cases e0 : r.toList = s.toList
  · have e0b : (r.toList == s.toList) = true := by simp [e0]
    rw [show eqS r s = true from by simp [eqS, e0], Bool.true_and]
    by_cases hl : us.length = vs.length
    · have HL := Lib.hid hl
      rw [hl] at hlA HX0 HO0 HY0 ⊢
      have e1 : ((vs.length : Int) != (vs.length : Int)) = false := by simp
      obtain ⟨bx0, bx1, bxl⟩ := HX0.out.facts2
      obtain ⟨by0, by1, byl⟩ := HY0.out.facts2
      go_enter Tryd.func26, Tryd.ntmps26
      go_wp2_with (fail)
      obtain ⟨w1, hw1⟩ : ∃ W : World, (w.alloc (.cells #[.slice A vs.length c, .string r] 39)).alloc (.cells #[.slice B vs.length d, .string s] 39) = W := ⟨_, rfl⟩
      rw [hw1] at HX0 HY0 HO0 ⊢
      clear hw1 bx0 bx1 bxl by0 by1 byl e0 e0b e1
      go_loopw [5] (fun i wr => ∃ k : Nat, i = .int .i64 k ∧ k ≤ vs.length ∧ Hid (alikeG Md.same (us.take k) (vs.take k) = true) ∧ Hid (Only [] w1 wr)) (fun i _ => vs.length - (intOf i).toNat)
      case atStart => exact ⟨0, rfl, Nat.zero_le _, Lib.hid (by simp [alikeG]), Lib.hid (Only.refl _ _)⟩
      case round =>
        obtain ⟨k, rfl, hk, HP, HOr⟩ := hrel
        have HXr := Lib.hid (HOr.out.blk HX0.out (by simp))
        have HYr := Lib.hid (HOr.out.blk HY0.out (by simp))
        obtain ⟨bx0, bx1, bxl⟩ := HXr.out.facts2
        by_cases hlt : k < vs.length
        · obtain ⟨x, hx⟩ : ∃ e, us[k]? = some e := ⟨_, List.getElem?_eq_getElem (by have := HL.out; omega)⟩
          obtain ⟨y, hy⟩ : ∃ e, vs[k]? = some e := ⟨_, List.getElem?_eq_getElem hlt⟩
          have ow := HO0.out.trans HOr.out (by simp)
          have hLx := Md.Li.keep _ _ _ (HA.out.sub x (List.mem_of_getElem? hx)) ow
          have hLy := Md.Li.keep _ _ _ (HB.out.sub y (List.mem_of_getElem? hy)) ow
          have HTK := Lib.hid (alikeG_take (p := Md.same) HL.out hx hy)
          have HBAD := Lib.hid (alikeG_bad (p := Md.same) hx hy)
          have hrx := (HA.out.row k _ hx).keep ow
          have hry := (HB.out.row k _ hy).keep ow
          have hcall := fun W (o : Only [] wr W) => rsameMd_any (Md.Li.keep _ _ _ hLx o) (Md.Li.keep _ _ _ hLy o)
          obtain ⟨pe, hpe⟩ : ∃ pe, Md.same x y = pe := ⟨_, rfl⟩
          rw [hpe] at HTK HBAD
          simp only [hpe] at hcall
          obtain ⟨xn, xcp, xinsA, xinsc, xinsl, xoutsA, xoutsc, xoutsl, xvarsA, xvarsc, xvarsl, xtaA, xtac, xtal, xemitsA, xemitsc, xemitsl, xintA, xintc, xintl, xextA, xextc, xextl, xcon, xownA, xownc, xownl, xpartsA, xpartsc, xpartsl, xlinksA, xlinksc, xlinksl, xrulesA, xrulesc, xrulesl⟩ := x
          obtain ⟨yn, ycp, yinsA, yinsc, yinsl, youtsA, youtsc, youtsl, yvarsA, yvarsc, yvarsl, ytaA, ytac, ytal, yemitsA, yemitsc, yemitsl, yintA, yintc, yintl, yextA, yextc, yextl, ycon, yownA, yownc, yownl, ypartsA, ypartsc, ypartsl, ylinksA, ylinksc, ylinksl, yrulesA, yrulesc, yrulesl⟩ := y
          obtain ⟨ba, oa, rfl, hba, c0, c1, c2, c3, c4, c5, c6, c7, c8, c9, c10, c11, c12, c13⟩ := Md.at_cells hrx
          obtain ⟨bb, ob, rfl, hbb, d0, d1, d2, d3, d4, d5, d6, d7, d8, d9, d10, d11, d12, d13⟩ := Md.at_cells hry
          have HCX := Lib.hid (show ba < wr.heap.size ∧ wr.cell? ⟨ba, oa + k * 14, none⟩ = some (.string xn) ∧ wr.cell? ⟨ba, oa + k * 14 + 1, none⟩ = some (.bool xcp) ∧ wr.cell? ⟨ba, oa + k * 14 + 2, none⟩ = some (.slice xinsA xinsl.length xinsc) ∧ wr.cell? ⟨ba, oa + k * 14 + 3, none⟩ = some (.slice xoutsA xoutsl.length xoutsc) ∧ wr.cell? ⟨ba, oa + k * 14 + 4, none⟩ = some (.slice xvarsA xvarsl.length xvarsc) ∧ wr.cell? ⟨ba, oa + k * 14 + 5, none⟩ = some (.slice xtaA xtal.length xtac) ∧ wr.cell? ⟨ba, oa + k * 14 + 6, none⟩ = some (.slice xemitsA xemitsl.length xemitsc) ∧ wr.cell? ⟨ba, oa + k * 14 + 7, none⟩ = some (.slice xintA xintl.length xintc) ∧ wr.cell? ⟨ba, oa + k * 14 + 8, none⟩ = some (.slice xextA xextl.length xextc) ∧ wr.cell? ⟨ba, oa + k * 14 + 9, none⟩ = some (.int .i64 xcon) ∧ wr.cell? ⟨ba, oa + k * 14 + 10, none⟩ = some (.slice xownA xownl.length xownc) ∧ wr.cell? ⟨ba, oa + k * 14 + 11, none⟩ = some (.slice xpartsA xpartsl.length xpartsc) ∧ wr.cell? ⟨ba, oa + k * 14 + 12, none⟩ = some (.slice xlinksA xlinksl.length xlinksc) ∧ wr.cell? ⟨ba, oa + k * 14 + 13, none⟩ = some (.slice xrulesA xrulesl.length xrulesc) from ⟨hba, c0, c1, c2, c3, c4, c5, c6, c7, c8, c9, c10, c11, c12, c13⟩)
          have HCY := Lib.hid (show bb < wr.heap.size ∧ wr.cell? ⟨bb, ob + k * 14, none⟩ = some (.string yn) ∧ wr.cell? ⟨bb, ob + k * 14 + 1, none⟩ = some (.bool ycp) ∧ wr.cell? ⟨bb, ob + k * 14 + 2, none⟩ = some (.slice yinsA yinsl.length yinsc) ∧ wr.cell? ⟨bb, ob + k * 14 + 3, none⟩ = some (.slice youtsA youtsl.length youtsc) ∧ wr.cell? ⟨bb, ob + k * 14 + 4, none⟩ = some (.slice yvarsA yvarsl.length yvarsc) ∧ wr.cell? ⟨bb, ob + k * 14 + 5, none⟩ = some (.slice ytaA ytal.length ytac) ∧ wr.cell? ⟨bb, ob + k * 14 + 6, none⟩ = some (.slice yemitsA yemitsl.length yemitsc) ∧ wr.cell? ⟨bb, ob + k * 14 + 7, none⟩ = some (.slice yintA yintl.length yintc) ∧ wr.cell? ⟨bb, ob + k * 14 + 8, none⟩ = some (.slice yextA yextl.length yextc) ∧ wr.cell? ⟨bb, ob + k * 14 + 9, none⟩ = some (.int .i64 ycon) ∧ wr.cell? ⟨bb, ob + k * 14 + 10, none⟩ = some (.slice yownA yownl.length yownc) ∧ wr.cell? ⟨bb, ob + k * 14 + 11, none⟩ = some (.slice ypartsA ypartsl.length ypartsc) ∧ wr.cell? ⟨bb, ob + k * 14 + 12, none⟩ = some (.slice ylinksA ylinksl.length ylinksc) ∧ wr.cell? ⟨bb, ob + k * 14 + 13, none⟩ = some (.slice yrulesA yrulesl.length yrulesc) from ⟨hbb, d0, d1, d2, d3, d4, d5, d6, d7, d8, d9, d10, d11, d12, d13⟩)
          have HCA := Lib.hid (show ∀ W, Only [] wr W → Calls Tryd.prog 46 #[.agg #[.string xn, .bool xcp, .slice xinsA xinsl.length xinsc, .slice xoutsA xoutsl.length xoutsc, .slice xvarsA xvarsl.length xvarsc, .slice xtaA xtal.length xtac, .slice xemitsA xemitsl.length xemitsc, .slice xintA xintl.length xintc, .slice xextA xextl.length xextc, .int .i64 xcon, .slice xownA xownl.length xownc, .slice xpartsA xpartsl.length xpartsc, .slice xlinksA xlinksl.length xlinksc, .slice xrulesA xrulesl.length xrulesc], .agg #[.string yn, .bool ycp, .slice yinsA yinsl.length yinsc, .slice youtsA youtsl.length youtsc, .slice yvarsA yvarsl.length yvarsc, .slice ytaA ytal.length ytac, .slice yemitsA yemitsl.length yemitsc, .slice yintA yintl.length yintc, .slice yextA yextl.length yextc, .int .i64 ycon, .slice yownA yownl.length yownc, .slice ypartsA ypartsl.length ypartsc, .slice ylinksA ylinksl.length ylinksc, .slice yrulesA yrulesl.length yrulesc]] W fun r w' => r = .returned (.bool pe) ∧ Only [] W w' from hcall)
          have hki : (0 : Int) ≤ (k : Int) := by omega
          have hki2 : (k : Int) < (vs.length : Int) := by omega
          clear hx hy hLx hLy hrx hry hcall hpe ow c0 c1 c2 c3 c4 c5 c6 c7 c8 c9 c10 c11 c12 c13 d0 d1 d2 d3 d4 d5 d6 d7 d8 d9 d10 d11 d12 d13 hba hbb
          obtain ⟨wq, hwq⟩ : ∃ wq : World, wq = wr := ⟨_, rfl⟩
          subst hwq
          go_wp2_with (fail)
          clear bx0 bx1 bxl
          refine (wpIn_wide (n := 9)).1 ?_
          refine wpIn_region_relR 12 (Only []) (fr := ?frs6) (tl := ?tls6) (fun iq v wv => match iq with
            | 0 => v = .pointer (some ⟨w.heap.size, 0, none⟩)
            | 1 => v = .slice (some ⟨ba, oa, none⟩) vs.length c
            | 2 => v = .int .i64 (k : Int)
            | 3 => v = .pointer (some ⟨ba, oa + k * 14, none⟩)
            | 4 => v = .agg #[.string xn, .bool xcp, .slice xinsA xinsl.length xinsc, .slice xoutsA xoutsl.length xoutsc, .slice xvarsA xvarsl.length xvarsc, .slice xtaA xtal.length xtac, .slice xemitsA xemitsl.length xemitsc, .slice xintA xintl.length xintc, .slice xextA xextl.length xextc, .int .i64 xcon, .slice xownA xownl.length xownc, .slice xpartsA xpartsl.length xpartsc, .slice xlinksA xlinksl.length xlinksc, .slice xrulesA xrulesl.length xrulesc]
            | 5 => v = .pointer (some ⟨w.heap.size + 1, 0, none⟩)
            | 6 => v = .slice (some ⟨bb, ob, none⟩) vs.length d
            | 7 => v = .int .i64 (k : Int)
            | 8 => v = .pointer (some ⟨bb, ob + k * 14, none⟩)
            | 9 => v = .agg #[.string yn, .bool ycp, .slice yinsA yinsl.length yinsc, .slice youtsA youtsl.length youtsc, .slice yvarsA yvarsl.length yvarsc, .slice ytaA ytal.length ytac, .slice yemitsA yemitsl.length yemitsc, .slice yintA yintl.length yintc, .slice yextA yextl.length yextc, .int .i64 ycon, .slice yownA yownl.length yownc, .slice ypartsA ypartsl.length ypartsc, .slice ylinksA ylinksl.length ylinksc, .slice yrulesA yrulesl.length yrulesc]
            | 10 => v = .bool pe
            | 11 => v = .bool !pe
            | _ => True) (.inl rfl) (by kernel_rfl) (by kernel_rfl) (by kernel_rfl) (by kernel_rfl) (by kernel_rfl) (by kernel_rfl) (by decide) ?htls6 ?hfrs6 (Only.refl _ _) (fun _ _ _ h k => h.trans k (fun _ hx => .inl hx)) ?stabs6 ?stepss6 ?dones6
          case htls6 => simp only [List.drop_succ_cons, List.drop_zero]; rfl
          case hfrs6 => intro vals; simp only [putAll, dstAt, Act.put, List.getElem?_toArray, List.getElem?_cons_zero, List.getElem?_cons_succ, Option.bind_some, List.setIfInBounds_toArray, List.set_cons_zero, List.set_cons_succ]; rfl
          case stabs6 =>
            intro i v wa wb h
            try dsimp only
            split <;> first | exact id
          case stepss6 =>
            refine ⟨?_, ?_, ?_, ?_, ?_, ?_, ?_, ?_, ?_, ?_, ?_, ?_, trivial⟩
            · intro vals wr hR hp K hK
              dsimp only at hK ⊢
              clear hp
              unfold RunsOp
              go_simp
              exact hK.out _ _ ⟨_, rfl, Only.refl _ _, rfl⟩
            · intro vals wr hR hp K hK
              dsimp only at hK ⊢
              obtain ⟨p0, -⟩ := hp
              replace p0 := p0 rfl
              dsimp only at p0
              rw [p0] at hK ⊢
              clear p0
              unfold RunsOp
              obtain ⟨k0, k1, kl⟩ := (hR.blk (Blk.drew HXr.out) (by simp)).facts2
              go_simp
              exact hK.out _ _ ⟨_, rfl, Only.refl _ _, rfl⟩
            · intro vals wr hR hp K hK
              dsimp only at hK ⊢
              clear hp
              unfold RunsOp
              go_simp
              exact hK.out _ _ ⟨_, rfl, Only.refl _ _, rfl⟩
            · intro vals wr hR hp K hK
              dsimp only at hK ⊢
              obtain ⟨p1, p2, -⟩ := hp
              replace p1 := p1 rfl
              replace p2 := p2 rfl
              dsimp only at p1 p2
              rw [p1, p2] at hK ⊢
              clear p1 p2
              unfold RunsOp
              go_simp
              exact hK.out _ _ ⟨_, rfl, Only.refl _ _, rfl⟩
            · intro vals wr hR hp K hK
              dsimp only at hK ⊢
              obtain ⟨p3, -⟩ := hp
              replace p3 := p3 rfl
              dsimp only at p3
              rw [p3] at hK ⊢
              clear p3
              unfold RunsOp
              have q0 := (hR.cell (p := ⟨ba, oa + k * 14, none⟩) HCX.out.1 (by simp)).trans HCX.out.2.1
              have q1 := (hR.cell (p := ⟨ba, oa + k * 14 + 1, none⟩) HCX.out.1 (by simp)).trans HCX.out.2.2.1
              have q2 := (hR.cell (p := ⟨ba, oa + k * 14 + 2, none⟩) HCX.out.1 (by simp)).trans HCX.out.2.2.2.1
              have q3 := (hR.cell (p := ⟨ba, oa + k * 14 + 3, none⟩) HCX.out.1 (by simp)).trans HCX.out.2.2.2.2.1
              have q4 := (hR.cell (p := ⟨ba, oa + k * 14 + 4, none⟩) HCX.out.1 (by simp)).trans HCX.out.2.2.2.2.2.1
              have q5 := (hR.cell (p := ⟨ba, oa + k * 14 + 5, none⟩) HCX.out.1 (by simp)).trans HCX.out.2.2.2.2.2.2.1
              have q6 := (hR.cell (p := ⟨ba, oa + k * 14 + 6, none⟩) HCX.out.1 (by simp)).trans HCX.out.2.2.2.2.2.2.2.1
              have q7 := (hR.cell (p := ⟨ba, oa + k * 14 + 7, none⟩) HCX.out.1 (by simp)).trans HCX.out.2.2.2.2.2.2.2.2.1
              have q8 := (hR.cell (p := ⟨ba, oa + k * 14 + 8, none⟩) HCX.out.1 (by simp)).trans HCX.out.2.2.2.2.2.2.2.2.2.1
              have q9 := (hR.cell (p := ⟨ba, oa + k * 14 + 9, none⟩) HCX.out.1 (by simp)).trans HCX.out.2.2.2.2.2.2.2.2.2.2.1
              have q10 := (hR.cell (p := ⟨ba, oa + k * 14 + 10, none⟩) HCX.out.1 (by simp)).trans HCX.out.2.2.2.2.2.2.2.2.2.2.2.1
              have q11 := (hR.cell (p := ⟨ba, oa + k * 14 + 11, none⟩) HCX.out.1 (by simp)).trans HCX.out.2.2.2.2.2.2.2.2.2.2.2.2.1
              have q12 := (hR.cell (p := ⟨ba, oa + k * 14 + 12, none⟩) HCX.out.1 (by simp)).trans HCX.out.2.2.2.2.2.2.2.2.2.2.2.2.2.1
              have q13 := (hR.cell (p := ⟨ba, oa + k * 14 + 13, none⟩) HCX.out.1 (by simp)).trans HCX.out.2.2.2.2.2.2.2.2.2.2.2.2.2.2
              go_simp
              exact hK.out _ _ ⟨_, rfl, Only.refl _ _, rfl⟩
            · intro vals wr hR hp K hK
              dsimp only at hK ⊢
              clear hp
              unfold RunsOp
              go_simp
              exact hK.out _ _ ⟨_, rfl, Only.refl _ _, rfl⟩
            · intro vals wr hR hp K hK
              dsimp only at hK ⊢
              obtain ⟨p5, -⟩ := hp
              replace p5 := p5 rfl
              dsimp only at p5
              rw [p5] at hK ⊢
              clear p5
              unfold RunsOp
              obtain ⟨k0, k1, kl⟩ := (hR.blk (Blk.drew HYr.out) (by simp)).facts2
              go_simp
              exact hK.out _ _ ⟨_, rfl, Only.refl _ _, rfl⟩
            · intro vals wr hR hp K hK
              dsimp only at hK ⊢
              clear hp
              unfold RunsOp
              go_simp
              exact hK.out _ _ ⟨_, rfl, Only.refl _ _, rfl⟩
            · intro vals wr hR hp K hK
              dsimp only at hK ⊢
              obtain ⟨p6, p7, -⟩ := hp
              replace p6 := p6 rfl
              replace p7 := p7 rfl
              dsimp only at p6 p7
              rw [p6, p7] at hK ⊢
              clear p6 p7
              unfold RunsOp
              go_simp
              exact hK.out _ _ ⟨_, rfl, Only.refl _ _, rfl⟩
            · intro vals wr hR hp K hK
              dsimp only at hK ⊢
              obtain ⟨p8, -⟩ := hp
              replace p8 := p8 rfl
              dsimp only at p8
              rw [p8] at hK ⊢
              clear p8
              unfold RunsOp
              have q0 := (hR.cell (p := ⟨bb, ob + k * 14, none⟩) HCY.out.1 (by simp)).trans HCY.out.2.1
              have q1 := (hR.cell (p := ⟨bb, ob + k * 14 + 1, none⟩) HCY.out.1 (by simp)).trans HCY.out.2.2.1
              have q2 := (hR.cell (p := ⟨bb, ob + k * 14 + 2, none⟩) HCY.out.1 (by simp)).trans HCY.out.2.2.2.1
              have q3 := (hR.cell (p := ⟨bb, ob + k * 14 + 3, none⟩) HCY.out.1 (by simp)).trans HCY.out.2.2.2.2.1
              have q4 := (hR.cell (p := ⟨bb, ob + k * 14 + 4, none⟩) HCY.out.1 (by simp)).trans HCY.out.2.2.2.2.2.1
              have q5 := (hR.cell (p := ⟨bb, ob + k * 14 + 5, none⟩) HCY.out.1 (by simp)).trans HCY.out.2.2.2.2.2.2.1
              have q6 := (hR.cell (p := ⟨bb, ob + k * 14 + 6, none⟩) HCY.out.1 (by simp)).trans HCY.out.2.2.2.2.2.2.2.1
              have q7 := (hR.cell (p := ⟨bb, ob + k * 14 + 7, none⟩) HCY.out.1 (by simp)).trans HCY.out.2.2.2.2.2.2.2.2.1
              have q8 := (hR.cell (p := ⟨bb, ob + k * 14 + 8, none⟩) HCY.out.1 (by simp)).trans HCY.out.2.2.2.2.2.2.2.2.2.1
              have q9 := (hR.cell (p := ⟨bb, ob + k * 14 + 9, none⟩) HCY.out.1 (by simp)).trans HCY.out.2.2.2.2.2.2.2.2.2.2.1
              have q10 := (hR.cell (p := ⟨bb, ob + k * 14 + 10, none⟩) HCY.out.1 (by simp)).trans HCY.out.2.2.2.2.2.2.2.2.2.2.2.1
              have q11 := (hR.cell (p := ⟨bb, ob + k * 14 + 11, none⟩) HCY.out.1 (by simp)).trans HCY.out.2.2.2.2.2.2.2.2.2.2.2.2.1
              have q12 := (hR.cell (p := ⟨bb, ob + k * 14 + 12, none⟩) HCY.out.1 (by simp)).trans HCY.out.2.2.2.2.2.2.2.2.2.2.2.2.2.1
              have q13 := (hR.cell (p := ⟨bb, ob + k * 14 + 13, none⟩) HCY.out.1 (by simp)).trans HCY.out.2.2.2.2.2.2.2.2.2.2.2.2.2.2
              go_simp
              exact hK.out _ _ ⟨_, rfl, Only.refl _ _, rfl⟩
            · intro vals wr hR hp K hK
              dsimp only at hK ⊢
              obtain ⟨p4, p9, -⟩ := hp
              replace p4 := p4 rfl
              replace p9 := p9 rfl
              dsimp only at p4 p9
              rw [p4, p9] at hK ⊢
              clear p4 p9
              unfold RunsOp
              go_simp
              refine (HCA.out _ ((Only.refl [] _).drew.trans hR (by simp))).mono ?_
              rintro e' w2 ⟨rfl, o2⟩
              exact hK.out _ _ ⟨_, rfl, o2, rfl⟩
            · intro vals wr hR hp K hK
              dsimp only at hK ⊢
              obtain ⟨p10, -⟩ := hp
              replace p10 := p10 rfl
              dsimp only at p10
              rw [p10] at hK ⊢
              clear p10
              unfold RunsOp
              go_simp
              exact hK.out _ _ ⟨_, rfl, Only.refl _ _, rfl⟩
          case dones6 =>
            intro vals wd hR hF
            have f0 : vals 0 = .pointer (some ⟨w.heap.size, 0, none⟩) := hF 0 (by decide)
            have f1 : vals 1 = .slice (some ⟨ba, oa, none⟩) vs.length c := hF 1 (by decide)
            have f2 : vals 2 = .int .i64 (k : Int) := hF 2 (by decide)
            have f3 : vals 3 = .pointer (some ⟨ba, oa + k * 14, none⟩) := hF 3 (by decide)
            have f4 : vals 4 = .agg #[.string xn, .bool xcp, .slice xinsA xinsl.length xinsc, .slice xoutsA xoutsl.length xoutsc, .slice xvarsA xvarsl.length xvarsc, .slice xtaA xtal.length xtac, .slice xemitsA xemitsl.length xemitsc, .slice xintA xintl.length xintc, .slice xextA xextl.length xextc, .int .i64 xcon, .slice xownA xownl.length xownc, .slice xpartsA xpartsl.length xpartsc, .slice xlinksA xlinksl.length xlinksc, .slice xrulesA xrulesl.length xrulesc] := hF 4 (by decide)
            have f5 : vals 5 = .pointer (some ⟨w.heap.size + 1, 0, none⟩) := hF 5 (by decide)
            have f6 : vals 6 = .slice (some ⟨bb, ob, none⟩) vs.length d := hF 6 (by decide)
            have f7 : vals 7 = .int .i64 (k : Int) := hF 7 (by decide)
            have f8 : vals 8 = .pointer (some ⟨bb, ob + k * 14, none⟩) := hF 8 (by decide)
            have f9 : vals 9 = .agg #[.string yn, .bool ycp, .slice yinsA yinsl.length yinsc, .slice youtsA youtsl.length youtsc, .slice yvarsA yvarsl.length yvarsc, .slice ytaA ytal.length ytac, .slice yemitsA yemitsl.length yemitsc, .slice yintA yintl.length yintc, .slice yextA yextl.length yextc, .int .i64 ycon, .slice yownA yownl.length yownc, .slice ypartsA ypartsl.length ypartsc, .slice ylinksA ylinksl.length ylinksc, .slice yrulesA yrulesl.length yrulesc] := hF 9 (by decide)
            have f10 : vals 10 = .bool pe := hF 10 (by decide)
            have f11 : vals 11 = .bool !pe := hF 11 (by decide)
            rw [f0, f1, f2, f3, f4, f5, f6, f7, f8, f9, f10, f11]
            clear f0 f1 f2 f3 f4 f5 f6 f7 f8 f9 f10 f11
            have HO5 := Lib.hid (HOr.out.trans ((Only.refl [] _).drew.trans hR (by simp)) (by simp))
            clear hR hF
            gi_wp2_with (fail)
            cases pe
            · go_wp2_with (fail)
              go_ret
              exact ⟨by rw [HBAD.out (by first | rfl | trivial)]; rfl, HO0.out.trans HO5.out (by simp)⟩
            · go_wp2_with (fail)
              go_roundw
              case rel => exact ⟨k + 1, by go_num, by omega, Lib.hid (by rw [HTK.out, HP.out]; rfl), HO5⟩
              case measure => simp [intOf] <;> omega
        · obtain rfl : k = vs.length := by omega
          have iz : ¬ (vs.length : Int) < (vs.length : Int) := by omega
          go_wp2_with (fail)
          go_ret
          exact ⟨by have := HP.out; rw [List.take_length, List.take_of_length_le (by have := HL.out; omega)] at this; rw [this]; rfl, HO0.out.trans HOr.out (by simp)⟩
    · have e1 : ((us.length : Int) != (vs.length : Int)) = true := by simp; omega
      have HE := Lib.hid (alikeG_len (p := Md.same) hl)
      clear hl
      obtain ⟨bx0, bx1, bxl⟩ := HX0.out.facts2
      obtain ⟨by0, by1, byl⟩ := HY0.out.facts2
      go_enter Tryd.func26, Tryd.ntmps26
      go_wp2_with (fail)
      go_ret
      exact ⟨by rw [HE.out]; rfl, HO0.out⟩
  · have e0b : (r.toList == s.toList) = false := by simp [e0]
    obtain ⟨bx0, bx1, bxl⟩ := HX0.out.facts2
    obtain ⟨by0, by1, byl⟩ := HY0.out.facts2
    go_enter Tryd.func26, Tryd.ntmps26
    go_wp2_with (fail)
    go_ret
    exact ⟨by simp [eqS, e0], HO0.out⟩
end Go.Proofs.YtfnacnlaphpflaaDoor
