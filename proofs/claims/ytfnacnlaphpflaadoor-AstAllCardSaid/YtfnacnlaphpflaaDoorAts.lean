/- Exprs, the document's. -/
import Derived.Test.YtfnacnlaphpflaaDoorPSp
namespace Go.Proofs.YtfnacnlaphpflaaDoor
open Go.RowKit Go.Kx
set_option maxRecDepth 100000
/-- the document's row, so long -/
def AtSt (B : Nat) (W : World) (A : Option Addr) (c j : Nat) (L : List Sp) : Prop := L.length = j ∧ AtR B W A c L
theorem AtSt.to {B : Nat} {w : World} {A : Option Addr} {c j : Nat} {L M : List Sp} (h : AtSt B w A c j L) (e : L = M) : AtSt B w A c j M := e ▸ h
theorem AtSt.keep {B : Nat} {w w' : World} {A : Option Addr} {c j : Nat} {L : List Sp} (h : AtSt B w A c j L) (o : Only [] w w') : AtSt B w' A c j L := ⟨h.1, h.2.keep o⟩
theorem AtSt.nil (B : Nat) (w : World) : AtSt B w none 0 0 [] := ⟨rfl, AtR.nil B w⟩
theorem AtSt.app {B z j : Nat} {w w1 : World} {A : Option Addr} {c : Nat} {L : List Sp} {s : Sp} (h : AtSt B w A c j L) (o : Only [] w w1) (hB : B ≤ w.heap.size)
    (hz : ∀ j u, s.cd[j]? = some u → w1.cell? ⟨z, j, none⟩ = some u) (hl : j + 1 ≤ 1048576) :
    ∃ A' c' w2, (Builtin.append_ #[44, 44] 44 #[.slice A j c, .slice (some ⟨z, 0, none⟩) 1 1]).run Tryd.prog w1 = .ok (.slice A' (j + 1) c') w2 ∧ AtSt B w2 A' c' (j + 1) (L ++ [s]) ∧ GrowR w A w2 A' := by
  obtain ⟨A', c', w2, hr, hs, hg⟩ := h.2.app h.1 o hB hz hl
  exact ⟨A', c', w2, hr, ⟨by rw [List.length_append, h.1]; rfl, hs⟩, hg⟩
def AtOut (B : Nat) (w : World) (A : Option Addr) (L : List Sp) (r : Ending) (w' : World) : Prop := ∃ A' c' j, r = .returned (.slice A' j c') ∧ AtSt B w' A' c' j L ∧ GrowR w A w' A'
set_option maxHeartbeats 4000000 in
theorem setsat_any {B n m p sc c : Nat} {W0 w : World} {A SA : Option Addr} {L : List Sp} {sets : List Se} (hB : W0.heap.size ≤ B) (hBw : B ≤ w.heap.size) (hO : Only [] W0 w) (hS : AtSt B w A c n L)
    (hR : RowX Se.cs 6 Se.Li W0 SA sets) (hl : n + sets.length ≤ 1048576) :
    Calls Tryd.prog 50 #[.slice A n c, .int .i64 m, .int .i64 p, .slice SA sets.length sc] w fun r w' => AtOut B w A (L ++ spL Se.e_ m p sets) r w' := by
  have hlen := hR.len
  have HB := Lib.hid hB
  have HBW := Lib.hid hBw
  have HO := Lib.hid hO
  have HR := Lib.hid hR
  have HL := Lib.hid hl
  have HLOW := Lib.hid hS.2.low
  have HS := Lib.hid (hS.to (show L = L ++ spL Se.e_ m p (sets.take 0) from by simp [spL]))
  clear hB hBw hO hR hl hS
  go_enter Tryd.func50, Tryd.ntmps50
  go_wp2_with (fail)
  go_loopw [0, 9] (fun l i wr => ∃ (k : Nat) (A' : Option Addr) (c' : Nat), l = .slice A' (n + k) c' ∧ i = .int .i64 k ∧ k ≤ sets.length ∧ Hid (AtSt B wr A' c' (n + k) (L ++ spL Se.e_ m p (sets.take k))) ∧ Hid (GrowR w A wr A')) (fun _ i _ => sets.length - (intOf i).toNat)
  case atStart => exact ⟨0, A, c, rfl, rfl, Nat.zero_le _, HS, Lib.hid (GrowR.refl _ _)⟩
  case round =>
    obtain ⟨k, A', c', rfl, rfl, hk, HX, HG⟩ := hrel
    have HOr := Lib.hid (HG.out.base HO.out (fun p hp => Nat.le_trans HB.out (HLOW.out p hp).1))
    by_cases hlt : k < sets.length
    · obtain ⟨e, he⟩ : ∃ e, sets[k]? = some e := ⟨_, List.getElem?_eq_getElem hlt⟩
      have HTK := Lib.hid (spL_take (f := Se.e_) (m := m) (p := p) he)
      have hrow := (HR.out.row k _ he).keep HOr.out
      clear he
      obtain ⟨xn, xeo, xen, xes, xeu, xeA, xec, xel⟩ := e
      obtain ⟨b, o, rfl, hb, c0, c1, c2, c3, c4, c5⟩ := Se.at_cells hrow
      have hki : (0 : Int) ≤ (k : Int) := by omega
      have hki2 : (k : Int) < (sets.length : Int) := by omega
      have hz := Blk.new wr 54 #[.int .i64 m, .int .i64 p, .int .i64 k, .int .i64 xeo, .int .i64 xen, .string xes, .string xeu, .slice xeA xel.length xec]
      have o4 : Only [] wr (wr.alloc (.cells #[.int .i64 m, .int .i64 p, .int .i64 k, .int .i64 xeo, .int .i64 xen, .string xes, .string xeu, .slice xeA xel.length xec] 54)) := (Only.refl _ _).alloc _
      obtain ⟨A2, c2', w5, hrun, hS5, hG5⟩ := HX.out.app (z := wr.heap.size) (s := ⟨m, p, k, Ex.mk xeo xen xes xeu xeA xec xel⟩) o4 (Nat.le_trans HBW.out HG.out.only.size) (fun j u hj => by rw [hz.cell]; simpa [Sp.cd] using hj) (by have := HL.out; omega)
      have HX5 := Lib.hid (show AtSt B w5 A2 c2' (n + (k + 1)) (L ++ spL Se.e_ m p (sets.take (k + 1))) from by rw [HTK.out, ← List.append_assoc, ← Nat.add_assoc]; exact hS5)
      have HG5 := Lib.hid (HG.out.trans hG5)
      clear hz o4 hS5 hG5 hrow
      go_wp2_with (at_builtin; refine wpList_append_run hrun rfl _ _ rfl rfl rfl rfl ?_)
      go_roundw
      case rel => exact ⟨k + 1, A2, c2', by rw [Nat.add_assoc], by go_num, by omega, HX5, HG5⟩
      case measure => simp [intOf] <;> omega
    · obtain rfl : k = sets.length := by omega
      have iz : ¬ (sets.length : Int) < (sets.length : Int) := by omega
      go_wp2_with (fail)
      go_ret
      unfold AtOut
      exact ⟨A', c', n + sets.length, rfl, HX.out.to (by rw [List.take_length]), HG.out⟩
/-- what the document's Exprs answers -/
def AtOut0 (w : World) (us : List Md) (r : Ending) (w' : World) : Prop := ∃ A' c' j, r = .returned (.slice A' j c') ∧ AtSt (w.heap.size + 1) w' A' c' j (allL us) ∧ Only [] w w'
set_option maxHeartbeats 16000000 in
theorem rexprs_any {A : Option Addr} {c : Nat} {us : List Md} {rt : ByteArray} {w : World} (hA : RowX Md.cs 14 Md.Li w A us) (hs : (us.flatMap Md.es).length ≤ 1000) : Calls Tryd.prog 29 #[.agg #[.slice A us.length c, .string rt]] w (AtOut0 w us) := by
  have hlen := hA.len
  have HA := Lib.hid hA
  have HSZ := Lib.hid hs
  have HX := Lib.hid (Blk.new w 39 #[.slice A us.length c, .string rt])
  have HO := Lib.hid (show Only [] w (w.alloc (.cells #[.slice A us.length c, .string rt] 39)) from (Only.refl [] w).alloc _)
  obtain ⟨bp0, bp1, bpl⟩ := HX.out.facts2
  clear hA hs
  go_enter Tryd.func29, Tryd.ntmps29
  go_wp2_with (fail)
  obtain ⟨wB, hwB⟩ : ∃ W : World, w.alloc (.cells #[.slice A us.length c, .string rt] 39) = W := ⟨_, rfl⟩
  have HBs := Lib.hid (show wB.heap.size = w.heap.size + 1 from by rw [← hwB]; simp)
  rw [hwB] at HX HO ⊢
  clear hwB bp0 bp1 bpl
  obtain ⟨B, hB0⟩ : ∃ B, B = w.heap.size + 1 := ⟨_, rfl⟩
  have HBE := Lib.hid hB0
  have HB := Lib.hid (show w.heap.size ≤ B from by omega)
  clear hB0
  go_loopw [3, 4, 6, 7, 8, 9, 10] (fun l i s6 s7 s8 s9 s10 wr => ∃ (mk j : Nat) (A' : Option Addr) (c' : Nat) (v6 v7 v8 v9 v10 : Value), l = .slice A' j c' ∧ i = .int .i64 mk ∧ s6 = v6 ∧ s7 = v7 ∧ s8 = v8 ∧ s9 = v9 ∧ s10 = v10 ∧ mk ≤ us.length ∧ Hid (AtSt B wr A' c' j (allL (us.take mk))) ∧ Hid (Only [] w wr) ∧ Hid (Blk wr w.heap.size 39 #[.slice A us.length c, .string rt]) ∧ Hid (B ≤ wr.heap.size)) (fun _ i _ _ _ _ _ _ => us.length - (intOf i).toNat)
  case atStart => exact ⟨0, 0, none, 0, _, _, _, _, _, rfl, rfl, rfl, rfl, rfl, rfl, rfl, Nat.zero_le _, Lib.hid ((AtSt.nil _ _).to (by simp [allL])), HO, HX, Lib.hid (by rw [HBs.out, HBE.out]; exact Nat.le_refl _)⟩
  case round =>
    obtain ⟨mk, jV, AV, cV, v6, v7, v8, v9, v10, rfl, rfl, rfl, rfl, rfl, rfl, rfl, hmk, HSV, HOW, HXW, HZW⟩ := hrel
    obtain ⟨bp0, bp1, bpl⟩ := HXW.out.facts2
    by_cases hltm : mk < us.length
    · obtain ⟨e, he⟩ : ∃ e, us[mk]? = some e := ⟨_, List.getElem?_eq_getElem hltm⟩
      have hmem : e ∈ us := List.mem_of_getElem? he
      have HTKM := Lib.hid (allL_take he)
      have HLEM := Lib.hid (allL_le he)
      have hrow := (HA.out.row mk _ he).keep HOW.out
      have hLi := HA.out.sub e hmem
      clear he hmem
      obtain ⟨xn, xcp, xinsA, xinsc, xinsl, xoutsA, xoutsc, xoutsl, xvarsA, xvarsc, xvarsl, xtaA, xtac, xtal, xemitsA, xemitsc, xemitsl, xintA, xintc, xintl, xextA, xextc, xextl, xcon, xownA, xownc, xownl, xpartsA, xpartsc, xpartsl, xlinksA, xlinksc, xlinksl, xrulesA, xrulesc, xrulesl⟩ := e
      have HRvars := Lib.hid (show RowX Se.cs 6 Se.Li w xvarsA xvarsl from hLi.2.2.2.2.1)
      have HRint := Lib.hid (show RowX Se.cs 6 Se.Li w xintA xintl from hLi.2.2.2.2.2.2.2.1)
      have HRext := Lib.hid (show RowX Se.cs 6 Se.Li w xextA xextl from hLi.2.2.2.2.2.2.2.2.1)
      have HRown := Lib.hid (show RowX Se.cs 6 Se.Li w xownA xownl from hLi.2.2.2.2.2.2.2.2.2.2.1)
      have HRta := Lib.hid (show RowL w xtaA xtal from hLi.2.2.2.2.2.1)
      have HRemits := Lib.hid (show RowX Em.cs 7 Em.Li w xemitsA xemitsl from hLi.2.2.2.2.2.2.1)
      have HRrules := Lib.hid (show RowX Ru.cs 6 Ru.Li w xrulesA xrulesl from hLi.2.2.2.2.2.2.2.2.2.2.2.2.2)
      have HEQ := Lib.hid (show allL (us.take (mk + 1)) = allL (us.take mk) ++ spL Se.e_ mk 0 xvarsl ++ spL id mk 1 xtal ++ spL Em.e_ mk 2 xemitsl ++ ifL mk xemitsl ++ spL Se.e_ mk 4 xintl ++ spL Se.e_ mk 5 xextl ++ spL Se.e_ mk 6 xownl ++ spL Ru.e_ mk 7 xrulesl from by rw [HTKM.out]; simp only [mdL, List.append_assoc, Md.vars_, Md.ta_, Md.emits_, Md.int_, Md.ext_, Md.own_, Md.rules_])
      have HMDL := Lib.hid (show xvarsl.length + xtal.length + xemitsl.length + (ifL mk xemitsl).length + xintl.length + xextl.length + xownl.length + xrulesl.length = (mdL mk (.mk xn xcp xinsA xinsc xinsl xoutsA xoutsc xoutsl xvarsA xvarsc xvarsl xtaA xtac xtal xemitsA xemitsc xemitsl xintA xintc xintl xextA xextc xextl xcon xownA xownc xownl xpartsA xpartsc xpartsl xlinksA xlinksc xlinksl xrulesA xrulesc xrulesl)).length from by simp only [mdL, List.length_append, spL_len, Md.vars_, Md.ta_, Md.emits_, Md.int_, Md.ext_, Md.own_, Md.rules_])
      have HTOT := Lib.hid (show (allL (us.take mk)).length + (mdL mk (.mk xn xcp xinsA xinsc xinsl xoutsA xoutsc xoutsl xvarsA xvarsc xvarsl xtaA xtac xtal xemitsA xemitsc xemitsl xintA xintc xintl xextA xextc xextl xcon xownA xownc xownl xpartsA xpartsc xpartsl xlinksA xlinksc xlinksl xrulesA xrulesc xrulesl)).length ≤ 1048576 from by have h1 := HLEM.out; have h2 := HSZ.out; rw [allL_len us] at h1; omega)
      obtain ⟨b, o, rfl, hb, c0x, c1x, c2x, c3x, c4x, c5x, c6x, c7x, c8x, c9x, c10x, c11x, c12x, c13x⟩ := Md.at_cells hrow
      have hki : (0 : Int) ≤ (mk : Int) := by omega
      have hki2 : (mk : Int) < (us.length : Int) := by omega
      have hM := Blk.new wr 70 #[.string xn, .bool xcp, .slice xinsA xinsl.length xinsc, .slice xoutsA xoutsl.length xoutsc, .slice xvarsA xvarsl.length xvarsc, .slice xtaA xtal.length xtac, .slice xemitsA xemitsl.length xemitsc, .slice xintA xintl.length xintc, .slice xextA xextl.length xextc, .int .i64 xcon, .slice xownA xownl.length xownc, .slice xpartsA xpartsl.length xpartsc, .slice xlinksA xlinksl.length xlinksc, .slice xrulesA xrulesl.length xrulesc]
      have oM : Only [] wr (wr.alloc (.cells #[.string xn, .bool xcp, .slice xinsA xinsl.length xinsc, .slice xoutsA xoutsl.length xoutsc, .slice xvarsA xvarsl.length xvarsc, .slice xtaA xtal.length xtac, .slice xemitsA xemitsl.length xemitsc, .slice xintA xintl.length xintc, .slice xextA xextl.length xextc, .int .i64 xcon, .slice xownA xownl.length xownc, .slice xpartsA xpartsl.length xpartsc, .slice xlinksA xlinksl.length xlinksc, .slice xrulesA xrulesl.length xrulesc] 70)) := (Only.refl _ _).alloc _
      clear hrow hLi
      have HNE := Lib.hid (show ∀ p, AV = some p → p.block ≠ wr.heap.size from fun p hp => by have := (HSV.out.2.low p hp).2; omega)
      have HAB := Lib.hid (show ∀ p, AV = some p → w.heap.size ≤ p.block from fun p hp => Nat.le_trans HB.out (HSV.out.2.low p hp).1)
      have HOV := Lib.hid (HOW.out.trans oM (by simp))
      have HBV := Lib.hid (Nat.le_trans HZW.out oM.size)
      have HS0 := Lib.hid (HSV.out.keep oM)
      have HXV := Lib.hid (oM.blk HXW.out (by simp))
      have HM := Lib.hid hM
      go_wp2_with (fail)
      obtain ⟨w0, hw0⟩ : ∃ q, q = wr := ⟨_, rfl⟩
      subst hw0
      obtain ⟨wv, hwv⟩ : ∃ W : World, w0.alloc (.cells #[.string xn, .bool xcp, .slice xinsA xinsl.length xinsc, .slice xoutsA xoutsl.length xoutsc, .slice xvarsA xvarsl.length xvarsc, .slice xtaA xtal.length xtac, .slice xemitsA xemitsl.length xemitsc, .slice xintA xintl.length xintc, .slice xextA xextl.length xextc, .int .i64 xcon, .slice xownA xownl.length xownc, .slice xpartsA xpartsl.length xpartsc, .slice xlinksA xlinksl.length xlinksc, .slice xrulesA xrulesl.length xrulesc] 70) = W := ⟨_, rfl⟩
      rw [hwv] at HM HOV HBV HS0 HXV ⊢
      clear hwv hM oM hb bp0 bp1 bpl c0x c1x c2x c3x c4x c5x c6x c7x c8x c9x c10x c11x c12x c13x
      have HG0 := Lib.hid (GrowR.refl wv AV)
      refine (setsat_any (m := mk) (p := 0) HB.out (Nat.le_trans HBV.out HG0.out.only.size) (HG0.out.base HOV.out HAB.out) HS0.out HRvars.out (by have h1 := HS0.out.1; have h2 := HTOT.out; have h3 := HMDL.out; (try simp only [ifL_len] at h1 h2 h3); omega)).mono ?_
      rintro r w1 ⟨A1, c1, j1, rfl, hs, hg⟩
      have HS1 := Lib.hid hs
      have HG1 := Lib.hid (HG0.out.trans hg)
      clear hs hg
      obtain ⟨bx0, bx1, bx2, bx3, bx4, bx5, bx6, bx7, bx8, bx9, bx10, bx11, bx12, bx13, bxl⟩ := (HG1.out.blk HM.out HNE.out).facts14
      clear bx0 bx1 bx2 bx3 bx4 bx6 bx7 bx8 bx9 bx10 bx11 bx12 bx13
      go_wp2_with (fail)
      clear bx5 bxl
      have hlenta := HRta.out.len
      go_loopw [3, 6] (fun l i wr => ∃ (k j : Nat) (A' : Option Addr) (c' : Nat), l = .slice A' j c' ∧ i = .int .i64 k ∧ k ≤ xtal.length ∧ Hid (AtSt B wr A' c' j (allL (us.take mk) ++ spL Se.e_ mk 0 xvarsl ++ spL id mk 1 (xtal.take k))) ∧ Hid (GrowR wv AV wr A')) (fun _ i _ => xtal.length - (intOf i).toNat)
      case atStart => exact ⟨0, j1, A1, c1, rfl, rfl, Nat.zero_le _, Lib.hid (HS1.out.to (by rw [List.take_zero]; simp [spL])), HG1⟩
      case round =>
        obtain ⟨k, j, A', c', rfl, rfl, hk, HX', HG'⟩ := hrel
        have HOr := Lib.hid (HG'.out.base HOV.out HAB.out)
        obtain ⟨bx0, bx1, bx2, bx3, bx4, bx5, bx6, bx7, bx8, bx9, bx10, bx11, bx12, bx13, bxl⟩ := (HG'.out.blk HM.out HNE.out).facts14
        clear bx0 bx1 bx2 bx3 bx4 bx6 bx7 bx8 bx9 bx10 bx11 bx12 bx13
        by_cases hlt : k < xtal.length
        · obtain ⟨e, he⟩ : ∃ e, xtal[k]? = some e := ⟨_, List.getElem?_eq_getElem hlt⟩
          have HTK := Lib.hid (spL_take (f := id) (m := mk) (p := 1) he)
          have hrow := (HRta.out.row k _ he).only HOr.out (by simp)
          clear he
          obtain ⟨yo, yn, ys, yu, yA, yc, yl⟩ := e
          obtain ⟨b, o, rfl, hb, c0x, c1x, c2x, c3x, c4x⟩ := hrow.cells
          have hki : (0 : Int) ≤ (k : Int) := by omega
          have hki2 : (k : Int) < (xtal.length : Int) := by omega
          have hz := Blk.new wr 54 #[.int .i64 mk, .int .i64 1, .int .i64 k, .int .i64 yo, .int .i64 yn, .string ys, .string yu, .slice yA yl.length yc]
          have o4 : Only [] wr (wr.alloc (.cells #[.int .i64 mk, .int .i64 1, .int .i64 k, .int .i64 yo, .int .i64 yn, .string ys, .string yu, .slice yA yl.length yc] 54)) := (Only.refl _ _).alloc _
          obtain ⟨A9, c9, w9, hrun, hS9, hG9⟩ := HX'.out.app (z := wr.heap.size) (s := ⟨mk, 1, k, Ex.mk yo yn ys yu yA yc yl⟩) o4 (Nat.le_trans HBV.out HG'.out.only.size) (fun j u hj => by rw [hz.cell]; simpa [Sp.cd] using hj) (by have h1 := HX'.out.1; have h2 := HTOT.out; have h3 := HMDL.out; (try simp only [List.length_append, spL_len, ifL_len, List.length_take] at h1 h2 h3); omega)
          have HX9 := Lib.hid (hS9.to (show _ = allL (us.take mk) ++ spL Se.e_ mk 0 xvarsl ++ spL id mk 1 (xtal.take (k + 1)) from by rw [HTK.out, ← List.append_assoc]; rfl))
          have HG9 := Lib.hid (HG'.out.trans hG9)
          clear hz o4 hS9 hG9 hrow
          go_wp2_with (at_builtin; refine wpList_append_run hrun rfl _ _ rfl rfl rfl rfl ?_)
          go_roundw
          case rel => exact ⟨k + 1, j + 1, A9, c9, rfl, by go_num, by omega, HX9, HG9⟩
          case measure => simp [intOf] <;> omega
        · obtain rfl : k = xtal.length := by omega
          have iz : ¬ (xtal.length : Int) < (xtal.length : Int) := by omega
          have HS2 := Lib.hid (HX'.out.to (show _ = allL (us.take mk) ++ spL Se.e_ mk 0 xvarsl ++ spL id mk 1 xtal from by rw [List.take_length]))
          have HG2 := HG'
          obtain ⟨w2, hAq⟩ : ∃ q, q = wr := ⟨_, rfl⟩
          subst hAq
          obtain ⟨A2, hAq⟩ : ∃ q, q = A' := ⟨_, rfl⟩
          subst hAq
          obtain ⟨c2, hAq⟩ : ∃ q, q = c' := ⟨_, rfl⟩
          subst hAq
          obtain ⟨j2, hAq⟩ : ∃ q, q = j := ⟨_, rfl⟩
          subst hAq
          clear HX' HG' HOr hlt hk
          obtain ⟨bx0, bx1, bx2, bx3, bx4, bx5, bx6, bx7, bx8, bx9, bx10, bx11, bx12, bx13, bxl⟩ := (HG2.out.blk HM.out HNE.out).facts14
          clear bx0 bx1 bx2 bx3 bx4 bx7 bx8 bx9 bx10 bx11 bx12 bx13
          go_wp2_with (fail)
          clear bx6 bx5 bxl
          have hlenemits := HRemits.out.len
          go_loopw [3, 7] (fun l i wr => ∃ (k j : Nat) (A' : Option Addr) (c' : Nat), l = .slice A' j c' ∧ i = .int .i64 k ∧ k ≤ xemitsl.length ∧ Hid (AtSt B wr A' c' j (allL (us.take mk) ++ spL Se.e_ mk 0 xvarsl ++ spL id mk 1 xtal ++ spL Em.e_ mk 2 (xemitsl.take k))) ∧ Hid (GrowR wv AV wr A')) (fun _ i _ => xemitsl.length - (intOf i).toNat)
          case atStart => exact ⟨0, j2, A2, c2, rfl, rfl, Nat.zero_le _, Lib.hid (HS2.out.to (by rw [List.take_zero]; simp [spL])), HG2⟩
          case round =>
            obtain ⟨k, j, A', c', rfl, rfl, hk, HX', HG'⟩ := hrel
            have HOr := Lib.hid (HG'.out.base HOV.out HAB.out)
            obtain ⟨bx0, bx1, bx2, bx3, bx4, bx5, bx6, bx7, bx8, bx9, bx10, bx11, bx12, bx13, bxl⟩ := (HG'.out.blk HM.out HNE.out).facts14
            clear bx0 bx1 bx2 bx3 bx4 bx5 bx7 bx8 bx9 bx10 bx11 bx12 bx13
            by_cases hlt : k < xemitsl.length
            · obtain ⟨e, he⟩ : ∃ e, xemitsl[k]? = some e := ⟨_, List.getElem?_eq_getElem hlt⟩
              have HTK := Lib.hid (spL_take (f := Em.e_) (m := mk) (p := 2) he)
              have hrow := (HRemits.out.row k _ he).keep HOr.out
              clear he
              obtain ⟨yp, yeo, yen, yes, yeu, yeA, yec, yel, yiA, yic, yil⟩ := e
              obtain ⟨b, o, rfl, hb, c0x, c1x, c2x, c3x, c4x, c5x, c6x⟩ := Em.at_cells hrow
              have hki : (0 : Int) ≤ (k : Int) := by omega
              have hki2 : (k : Int) < (xemitsl.length : Int) := by omega
              have hz := Blk.new wr 54 #[.int .i64 mk, .int .i64 2, .int .i64 k, .int .i64 yeo, .int .i64 yen, .string yes, .string yeu, .slice yeA yel.length yec]
              have o4 : Only [] wr (wr.alloc (.cells #[.int .i64 mk, .int .i64 2, .int .i64 k, .int .i64 yeo, .int .i64 yen, .string yes, .string yeu, .slice yeA yel.length yec] 54)) := (Only.refl _ _).alloc _
              obtain ⟨A9, c9, w9, hrun, hS9, hG9⟩ := HX'.out.app (z := wr.heap.size) (s := ⟨mk, 2, k, Ex.mk yeo yen yes yeu yeA yec yel⟩) o4 (Nat.le_trans HBV.out HG'.out.only.size) (fun j u hj => by rw [hz.cell]; simpa [Sp.cd] using hj) (by have h1 := HX'.out.1; have h2 := HTOT.out; have h3 := HMDL.out; (try simp only [List.length_append, spL_len, ifL_len, List.length_take] at h1 h2 h3); omega)
              have HX9 := Lib.hid (hS9.to (show _ = allL (us.take mk) ++ spL Se.e_ mk 0 xvarsl ++ spL id mk 1 xtal ++ spL Em.e_ mk 2 (xemitsl.take (k + 1)) from by rw [HTK.out, ← List.append_assoc]; rfl))
              have HG9 := Lib.hid (HG'.out.trans hG9)
              clear hz o4 hS9 hG9 hrow
              go_wp2_with (at_builtin; refine wpList_append_run hrun rfl _ _ rfl rfl rfl rfl ?_)
              go_roundw
              case rel => exact ⟨k + 1, j + 1, A9, c9, rfl, by go_num, by omega, HX9, HG9⟩
              case measure => simp [intOf] <;> omega
            · obtain rfl : k = xemitsl.length := by omega
              have iz : ¬ (xemitsl.length : Int) < (xemitsl.length : Int) := by omega
              have HS3 := Lib.hid (HX'.out.to (show _ = allL (us.take mk) ++ spL Se.e_ mk 0 xvarsl ++ spL id mk 1 xtal ++ spL Em.e_ mk 2 xemitsl from by rw [List.take_length]))
              have HG3 := HG'
              obtain ⟨w3, hAq⟩ : ∃ q, q = wr := ⟨_, rfl⟩
              subst hAq
              obtain ⟨A3, hAq⟩ : ∃ q, q = A' := ⟨_, rfl⟩
              subst hAq
              obtain ⟨c3, hAq⟩ : ∃ q, q = c' := ⟨_, rfl⟩
              subst hAq
              obtain ⟨j3, hAq⟩ : ∃ q, q = j := ⟨_, rfl⟩
              subst hAq
              clear HX' HG' HOr hlt hk
              obtain ⟨bx0, bx1, bx2, bx3, bx4, bx5, bx6, bx7, bx8, bx9, bx10, bx11, bx12, bx13, bxl⟩ := (HG3.out.blk HM.out HNE.out).facts14
              clear bx0 bx1 bx2 bx3 bx4 bx5 bx7 bx8 bx9 bx10 bx11 bx12 bx13
              go_wp2_with (fail)
              clear bx6 bxl
              go_loopw [3, 8, 9] (fun l i q wr => ∃ (k j : Nat) (A' : Option Addr) (c' : Nat) (q9 : Value), l = .slice A' j c' ∧ i = .int .i64 k ∧ q = q9 ∧ k ≤ xemitsl.length ∧ Hid (AtSt B wr A' c' j (allL (us.take mk) ++ spL Se.e_ mk 0 xvarsl ++ spL id mk 1 xtal ++ spL Em.e_ mk 2 xemitsl ++ ifL mk (xemitsl.take k))) ∧ Hid (GrowR wv AV wr A')) (fun _ i _ _ => xemitsl.length - (intOf i).toNat)
              case atStart => exact ⟨0, j3, A3, c3, _, rfl, rfl, rfl, Nat.zero_le _, Lib.hid (HS3.out.to (by rw [List.take_zero]; simp [ifL])), HG3⟩
              case round =>
                obtain ⟨k, j, A', c', q9, rfl, rfl, rfl, hk, HX', HG'⟩ := hrel
                have HOr := Lib.hid (HG'.out.base HOV.out HAB.out)
                obtain ⟨bx0, bx1, bx2, bx3, bx4, bx5, bx6, bx7, bx8, bx9, bx10, bx11, bx12, bx13, bxl⟩ := (HG'.out.blk HM.out HNE.out).facts14
                clear bx0 bx1 bx2 bx3 bx4 bx5 bx7 bx8 bx9 bx10 bx11 bx12 bx13
                by_cases hlt : k < xemitsl.length
                · obtain ⟨e, he⟩ : ∃ e, xemitsl[k]? = some e := ⟨_, List.getElem?_eq_getElem hlt⟩
                  have hmem : e ∈ xemitsl := List.mem_of_getElem? he
                  have HTK := Lib.hid (ifL_take (m := mk) he)
                  have HLE := Lib.hid (ifL_le (m := mk) he)
                  have HROW := Lib.hid (HRemits.out.row k _ he)
                  have hsub := HRemits.out.sub e hmem
                  clear he hmem
                  obtain ⟨yp, yeo, yen, yes, yeu, yeA, yec, yel, yiA, yic, yil⟩ := e
                  have HRI := Lib.hid (show RowL w yiA yil from hsub.2.2)
                  have hki : (0 : Int) ≤ (k : Int) := by omega
                  have hki2 : (k : Int) < (xemitsl.length : Int) := by omega
                  have hlI := HRI.out.len
                  clear hsub
                  go_wp2_with (fail)
                  clear bx6 bxl
                  go_loopw [3, 9] (fun l i wr => ∃ (k2 j : Nat) (A' : Option Addr) (c' : Nat), l = .slice A' j c' ∧ i = .int .i64 k2 ∧ k2 ≤ yil.length ∧ Hid (AtSt B wr A' c' j (allL (us.take mk) ++ spL Se.e_ mk 0 xvarsl ++ spL id mk 1 xtal ++ spL Em.e_ mk 2 xemitsl ++ ifL mk (xemitsl.take k) ++ (yil.take k2).map fun e => (⟨mk, 3, k, e⟩ : Sp))) ∧ Hid (GrowR wv AV wr A')) (fun _ i _ => yil.length - (intOf i).toNat)
                  case atStart => exact ⟨0, j, A', c', rfl, rfl, Nat.zero_le _, Lib.hid (HX'.out.to (by rw [List.take_zero]; simp)), HG'⟩
                  case round =>
                    obtain ⟨k2, j2, A2, c2, rfl, rfl, hk2, HX2, HG2⟩ := hrel
                    have HOs := Lib.hid (HG2.out.base HOV.out HAB.out)
                    obtain ⟨bx0, bx1, bx2, bx3, bx4, bx5, bx6, bx7, bx8, bx9, bx10, bx11, bx12, bx13, bxl⟩ := (HG2.out.blk HM.out HNE.out).facts14
                    clear bx0 bx1 bx2 bx3 bx4 bx5 bx7 bx8 bx9 bx10 bx11 bx12 bx13
                    obtain ⟨b, o, hAe, hbe, g0x, g1x, g2x, g3x, g4x, g5x, g6x⟩ := Em.at_cells (HROW.out.keep HOs.out)
                    cases hAe
                    clear g0x g1x g2x g3x g4x g5x
                    by_cases hlt2 : k2 < yil.length
                    · obtain ⟨t, ht⟩ : ∃ t, yil[k2]? = some t := ⟨_, List.getElem?_eq_getElem hlt2⟩
                      have HTK2 := Lib.hid (show ((yil.take (k2 + 1)).map fun e => (⟨mk, 3, k, e⟩ : Sp)) = ((yil.take k2).map fun e => (⟨mk, 3, k, e⟩ : Sp)) ++ [⟨mk, 3, k, t⟩] from by rw [List.take_add_one, ht, List.map_append]; rfl)
                      have hrow := (HRI.out.row k2 _ ht).only HOs.out (by simp)
                      clear ht
                      obtain ⟨to, tn, ts, tu, tA, tc, tl⟩ := t
                      obtain ⟨b2, o2, hAe2, hb, c0x, c1x, c2x, c3x, c4x⟩ := hrow.cells
                      subst hAe2
                      have hk2i : (0 : Int) ≤ (k2 : Int) := by omega
                      have hk2i2 : (k2 : Int) < (yil.length : Int) := by omega
                      clear hrow
                      have hz := Blk.new wr 54 #[.int .i64 mk, .int .i64 3, .int .i64 k, .int .i64 to, .int .i64 tn, .string ts, .string tu, .slice tA tl.length tc]
                      have o4 : Only [] wr (wr.alloc (.cells #[.int .i64 mk, .int .i64 3, .int .i64 k, .int .i64 to, .int .i64 tn, .string ts, .string tu, .slice tA tl.length tc] 54)) := (Only.refl _ _).alloc _
                      obtain ⟨A9, c9, w9, hrun, hS9, hG9⟩ := HX2.out.app (z := wr.heap.size) (s := ⟨mk, 3, k, .mk to tn ts tu tA tc tl⟩) o4 (Nat.le_trans HBV.out HG2.out.only.size) (fun j u hj => by rw [hz.cell]; simpa [Sp.cd] using hj) (by have h1 := HX2.out.1; have h2 := HTOT.out; have h3 := HMDL.out; have h4 := HLE.out; simp only [List.length_append, spL_len, List.length_take, List.length_map, Em.i_] at h1 h2 h3 h4; omega)
                      have HX9 := Lib.hid (hS9.to (show _ = allL (us.take mk) ++ spL Se.e_ mk 0 xvarsl ++ spL id mk 1 xtal ++ spL Em.e_ mk 2 xemitsl ++ ifL mk (xemitsl.take k) ++ ((yil.take (k2 + 1)).map fun e => (⟨mk, 3, k, e⟩ : Sp)) from by rw [HTK2.out, ← List.append_assoc]))
                      have HG9 := Lib.hid (HG2.out.trans hG9)
                      clear hz o4 hS9 hG9
                      go_wp2_with (at_builtin; refine wpList_append_run hrun rfl _ _ rfl rfl rfl rfl ?_)
                      go_roundw
                      case rel => exact ⟨k2 + 1, j2 + 1, A9, c9, rfl, by go_num, by omega, HX9, HG9⟩
                      case measure => simp [intOf] <;> omega
                    · obtain rfl : k2 = yil.length := by omega
                      have iz : ¬ (yil.length : Int) < (yil.length : Int) := by omega
                      go_wp2_with (fail)
                      go_roundw
                      case rel => exact ⟨k + 1, j2, A2, c2, _, rfl, by go_num, rfl, by omega, Lib.hid (HX2.out.to (by rw [HTK.out, List.take_length, ← List.append_assoc]; rfl)), HG2⟩
                      case measure => simp [intOf] <;> omega
                · obtain rfl : k = xemitsl.length := by omega
                  have iz : ¬ (xemitsl.length : Int) < (xemitsl.length : Int) := by omega
                  have HS4 := Lib.hid (HX'.out.to (show _ = allL (us.take mk) ++ spL Se.e_ mk 0 xvarsl ++ spL id mk 1 xtal ++ spL Em.e_ mk 2 xemitsl ++ ifL mk xemitsl from by rw [List.take_length]))
                  have HG4 := HG'
                  obtain ⟨w4, hAq⟩ : ∃ q, q = wr := ⟨_, rfl⟩
                  subst hAq
                  obtain ⟨A4, hAq⟩ : ∃ q, q = A' := ⟨_, rfl⟩
                  subst hAq
                  obtain ⟨c4, hAq⟩ : ∃ q, q = c' := ⟨_, rfl⟩
                  subst hAq
                  obtain ⟨j4, hAq⟩ : ∃ q, q = j := ⟨_, rfl⟩
                  subst hAq
                  clear HX' HG' HOr hlt hk
                  obtain ⟨bx0, bx1, bx2, bx3, bx4, bx5, bx6, bx7, bx8, bx9, bx10, bx11, bx12, bx13, bxl⟩ := (HG4.out.blk HM.out HNE.out).facts14
                  clear bx0 bx1 bx2 bx3 bx4 bx5 bx8 bx9 bx10 bx11 bx12 bx13
                  go_wp2_with (fail)
                  refine (setsat_any (m := mk) (p := 4) HB.out (Nat.le_trans HBV.out HG4.out.only.size) (HG4.out.base HOV.out HAB.out) HS4.out HRint.out (by have h1 := HS4.out.1; have h2 := HTOT.out; have h3 := HMDL.out; (try simp only [List.length_append, spL_len, ifL_len] at h1 h2 h3); omega)).mono ?_
                  rintro r w5 ⟨A5, c5, j5, rfl, hs, hg⟩
                  have HS5 := Lib.hid hs
                  have HG5 := Lib.hid (HG4.out.trans hg)
                  clear hs hg bx6 bx7 bxl
                  obtain ⟨bx0, bx1, bx2, bx3, bx4, bx5, bx6, bx7, bx8, bx9, bx10, bx11, bx12, bx13, bxl⟩ := (HG5.out.blk HM.out HNE.out).facts14
                  clear bx0 bx1 bx2 bx3 bx4 bx5 bx6 bx7 bx9 bx10 bx11 bx12 bx13
                  go_wp2_with (fail)
                  refine (setsat_any (m := mk) (p := 5) HB.out (Nat.le_trans HBV.out HG5.out.only.size) (HG5.out.base HOV.out HAB.out) HS5.out HRext.out (by have h1 := HS5.out.1; have h2 := HTOT.out; have h3 := HMDL.out; (try simp only [List.length_append, spL_len, ifL_len] at h1 h2 h3); omega)).mono ?_
                  rintro r w6 ⟨A6, c6, j6, rfl, hs, hg⟩
                  have HS6 := Lib.hid hs
                  have HG6 := Lib.hid (HG5.out.trans hg)
                  clear hs hg bx8 bxl
                  obtain ⟨bx0, bx1, bx2, bx3, bx4, bx5, bx6, bx7, bx8, bx9, bx10, bx11, bx12, bx13, bxl⟩ := (HG6.out.blk HM.out HNE.out).facts14
                  clear bx0 bx1 bx2 bx3 bx4 bx5 bx6 bx7 bx8 bx9 bx11 bx12 bx13
                  go_wp2_with (fail)
                  refine (setsat_any (m := mk) (p := 6) HB.out (Nat.le_trans HBV.out HG6.out.only.size) (HG6.out.base HOV.out HAB.out) HS6.out HRown.out (by have h1 := HS6.out.1; have h2 := HTOT.out; have h3 := HMDL.out; (try simp only [List.length_append, spL_len, ifL_len] at h1 h2 h3); omega)).mono ?_
                  rintro r w7 ⟨A7, c7, j7, rfl, hs, hg⟩
                  have HS7 := Lib.hid hs
                  have HG7 := Lib.hid (HG6.out.trans hg)
                  clear hs hg bx10 bxl
                  obtain ⟨bx0, bx1, bx2, bx3, bx4, bx5, bx6, bx7, bx8, bx9, bx10, bx11, bx12, bx13, bxl⟩ := (HG7.out.blk HM.out HNE.out).facts14
                  clear bx0 bx1 bx2 bx3 bx4 bx5 bx6 bx7 bx8 bx9 bx10 bx11 bx12
                  go_wp2_with (fail)
                  clear bx13 bxl
                  have hlenrules := HRrules.out.len
                  go_loopw [3, 10] (fun l i wr => ∃ (k j : Nat) (A' : Option Addr) (c' : Nat), l = .slice A' j c' ∧ i = .int .i64 k ∧ k ≤ xrulesl.length ∧ Hid (AtSt B wr A' c' j (allL (us.take mk) ++ spL Se.e_ mk 0 xvarsl ++ spL id mk 1 xtal ++ spL Em.e_ mk 2 xemitsl ++ ifL mk xemitsl ++ spL Se.e_ mk 4 xintl ++ spL Se.e_ mk 5 xextl ++ spL Se.e_ mk 6 xownl ++ spL Ru.e_ mk 7 (xrulesl.take k))) ∧ Hid (GrowR wv AV wr A')) (fun _ i _ => xrulesl.length - (intOf i).toNat)
                  case atStart => exact ⟨0, j7, A7, c7, rfl, rfl, Nat.zero_le _, Lib.hid (HS7.out.to (by rw [List.take_zero]; simp [spL])), HG7⟩
                  case round =>
                    obtain ⟨k, j, A', c', rfl, rfl, hk, HX', HG'⟩ := hrel
                    have HOr := Lib.hid (HG'.out.base HOV.out HAB.out)
                    obtain ⟨bx0, bx1, bx2, bx3, bx4, bx5, bx6, bx7, bx8, bx9, bx10, bx11, bx12, bx13, bxl⟩ := (HG'.out.blk HM.out HNE.out).facts14
                    clear bx0 bx1 bx2 bx3 bx4 bx5 bx6 bx7 bx8 bx9 bx10 bx11 bx12
                    by_cases hlt : k < xrulesl.length
                    · obtain ⟨e, he⟩ : ∃ e, xrulesl[k]? = some e := ⟨_, List.getElem?_eq_getElem hlt⟩
                      have HTK := Lib.hid (spL_take (f := Ru.e_) (m := mk) (p := 7) he)
                      have hrow := (HRrules.out.row k _ he).keep HOr.out
                      clear he
                      obtain ⟨yeo, yen, yes, yeu, yeA, yec, yel, ysA, ysc, ysl⟩ := e
                      obtain ⟨b, o, rfl, hb, c0x, c1x, c2x, c3x, c4x, c5x⟩ := Ru.at_cells hrow
                      have hki : (0 : Int) ≤ (k : Int) := by omega
                      have hki2 : (k : Int) < (xrulesl.length : Int) := by omega
                      have hz := Blk.new wr 54 #[.int .i64 mk, .int .i64 7, .int .i64 k, .int .i64 yeo, .int .i64 yen, .string yes, .string yeu, .slice yeA yel.length yec]
                      have o4 : Only [] wr (wr.alloc (.cells #[.int .i64 mk, .int .i64 7, .int .i64 k, .int .i64 yeo, .int .i64 yen, .string yes, .string yeu, .slice yeA yel.length yec] 54)) := (Only.refl _ _).alloc _
                      obtain ⟨A9, c9, w9, hrun, hS9, hG9⟩ := HX'.out.app (z := wr.heap.size) (s := ⟨mk, 7, k, Ex.mk yeo yen yes yeu yeA yec yel⟩) o4 (Nat.le_trans HBV.out HG'.out.only.size) (fun j u hj => by rw [hz.cell]; simpa [Sp.cd] using hj) (by have h1 := HX'.out.1; have h2 := HTOT.out; have h3 := HMDL.out; (try simp only [List.length_append, spL_len, ifL_len, List.length_take] at h1 h2 h3); omega)
                      have HX9 := Lib.hid (hS9.to (show _ = allL (us.take mk) ++ spL Se.e_ mk 0 xvarsl ++ spL id mk 1 xtal ++ spL Em.e_ mk 2 xemitsl ++ ifL mk xemitsl ++ spL Se.e_ mk 4 xintl ++ spL Se.e_ mk 5 xextl ++ spL Se.e_ mk 6 xownl ++ spL Ru.e_ mk 7 (xrulesl.take (k + 1)) from by rw [HTK.out, ← List.append_assoc]; rfl))
                      have HG9 := Lib.hid (HG'.out.trans hG9)
                      clear hz o4 hS9 hG9 hrow
                      go_wp2_with (at_builtin; refine wpList_append_run hrun rfl _ _ rfl rfl rfl rfl ?_)
                      go_roundw
                      case rel => exact ⟨k + 1, j + 1, A9, c9, rfl, by go_num, by omega, HX9, HG9⟩
                      case measure => simp [intOf] <;> omega
                    · obtain rfl : k = xrulesl.length := by omega
                      have iz : ¬ (xrulesl.length : Int) < (xrulesl.length : Int) := by omega
                      have HS8 := Lib.hid (HX'.out.to (show _ = allL (us.take mk) ++ spL Se.e_ mk 0 xvarsl ++ spL id mk 1 xtal ++ spL Em.e_ mk 2 xemitsl ++ ifL mk xemitsl ++ spL Se.e_ mk 4 xintl ++ spL Se.e_ mk 5 xextl ++ spL Se.e_ mk 6 xownl ++ spL Ru.e_ mk 7 xrulesl from by rw [List.take_length]))
                      have HG8 := HG'
                      obtain ⟨w8, hAq⟩ : ∃ q, q = wr := ⟨_, rfl⟩
                      subst hAq
                      obtain ⟨A8, hAq⟩ : ∃ q, q = A' := ⟨_, rfl⟩
                      subst hAq
                      obtain ⟨c8, hAq⟩ : ∃ q, q = c' := ⟨_, rfl⟩
                      subst hAq
                      obtain ⟨j8, hAq⟩ : ∃ q, q = j := ⟨_, rfl⟩
                      subst hAq
                      clear HX' HG' HOr hlt hk
                      obtain ⟨bx0, bx1, bx2, bx3, bx4, bx5, bx6, bx7, bx8, bx9, bx10, bx11, bx12, bx13, bxl⟩ := (HG8.out.blk HM.out HNE.out).facts14
                      clear bx0 bx1 bx2 bx3 bx4 bx5 bx6 bx7 bx8 bx9 bx10 bx11 bx12
                      go_wp2_with (fail)
                      go_roundw
                      case rel => exact ⟨mk + 1, j8, A8, c8, _, _, _, _, _, rfl, by go_num, rfl, rfl, rfl, rfl, rfl, by omega, Lib.hid (HS8.out.to HEQ.out.symm), Lib.hid (HG8.out.base HOV.out HAB.out), Lib.hid (HG8.out.blk HXV.out (fun p hp => by have := (HSV.out.2.low p hp).1; have := HBE.out; omega)), Lib.hid (Nat.le_trans HBV.out HG8.out.only.size)⟩
                      case measure => simp [intOf] <;> omega
    · obtain rfl : mk = us.length := by omega
      have iz : ¬ (us.length : Int) < (us.length : Int) := by omega
      go_wp2_with (fail)
      go_ret
      unfold AtOut0
      exact ⟨AV, cV, jV, rfl, by rw [← HBE.out]; exact HSV.out.to (by rw [List.take_length]), HOW.out⟩
end Go.Proofs.YtfnacnlaphpflaaDoor
