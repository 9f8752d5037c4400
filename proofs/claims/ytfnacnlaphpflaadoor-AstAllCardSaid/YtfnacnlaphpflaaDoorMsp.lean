/- modelSpots. -/
import Derived.Test.YtfnacnlaphpflaaDoorSpo
namespace Go.Proofs.YtfnacnlaphpflaaDoor
open Go.RowKit Go.Kx
set_option maxRecDepth 100000
theorem mdL_eq (m : Nat) (x : Md) (L : List Sp) : L ++ mdL m x = L ++ spL Se.e_ m 0 x.vars_ ++ spL id m 1 x.ta_ ++ spL Em.e_ m 2 x.emits_ ++ ifL m x.emits_ ++ spL Se.e_ m 4 x.int_ ++ spL Se.e_ m 5 x.ext_ ++ spL Se.e_ m 6 x.own_ ++ spL Ru.e_ m 7 x.rules_ := by
  simp only [mdL, List.append_assoc]
theorem mem_vars {x : Md} {s : Se} (h : s ∈ x.vars_) : s.e_ ∈ x.es := by
  have := List.mem_map_of_mem (f := Se.e_) h
  simp only [Md.es, List.mem_append]
  simp [this]
theorem mem_int {x : Md} {s : Se} (h : s ∈ x.int_) : s.e_ ∈ x.es := by
  have := List.mem_map_of_mem (f := Se.e_) h
  simp only [Md.es, List.mem_append]
  simp [this]
theorem mem_ext {x : Md} {s : Se} (h : s ∈ x.ext_) : s.e_ ∈ x.es := by
  have := List.mem_map_of_mem (f := Se.e_) h
  simp only [Md.es, List.mem_append]
  simp [this]
theorem mem_own {x : Md} {s : Se} (h : s ∈ x.own_) : s.e_ ∈ x.es := by
  have := List.mem_map_of_mem (f := Se.e_) h
  simp only [Md.es, List.mem_append]
  simp [this]
theorem mem_rules {x : Md} {s : Ru} (h : s ∈ x.rules_) : s.e_ ∈ x.es := by
  have := List.mem_map_of_mem (f := Ru.e_) h
  simp only [Md.es, List.mem_append]
  simp [this]
theorem mem_ta {x : Md} {s : Ex} (h : s ∈ x.ta_) : s ∈ x.es := by
  simp only [Md.es, List.mem_append]
  simp [h]
theorem mem_emits {x : Md} {s : Em} (h : s ∈ x.emits_) : s.e_ ∈ x.es := by
  have : s.e_ ∈ x.emits_.flatMap Em.es := List.mem_flatMap.2 ⟨s, h, by simp [Em.es]⟩
  simp only [Md.es, List.mem_append]
  simp [this]
theorem mem_ifs {x : Md} {s : Em} (h : s ∈ x.emits_) {t : Ex} (ht : t ∈ s.i_) : t ∈ x.es := by
  have : t ∈ x.emits_.flatMap Em.es := List.mem_flatMap.2 ⟨s, h, by simp [Em.es, ht]⟩
  simp only [Md.es, List.mem_append]
  simp [this]
set_option maxHeartbeats 16000000 in
theorem modelspots_any {B n m c : Nat} {W0 w : World} {A : Option Addr} {L : List Sp} {x : Md} (hB : W0.heap.size ≤ B) (hBw : B ≤ w.heap.size) (hO : Only [] W0 w) (hS : SpSt B w A c n L) (hLi : Md.Li W0 x) (hsm : ∀ e ∈ x.es, e.sm = true) (hl : n + x.es.length ≤ 1048576) :
    Calls Tryd.prog 51 #[.slice A n c, .int .i64 m, x.val] w (SpOut B w A (L ++ mdL m x)) := by
  obtain ⟨xn, xcp, xinsA, xinsc, xinsl, xoutsA, xoutsc, xoutsl, xvarsA, xvarsc, xvarsl, xtaA, xtac, xtal, xemitsA, xemitsc, xemitsl, xintA, xintc, xintl, xextA, xextc, xextl, xcon, xownA, xownc, xownl, xpartsA, xpartsc, xpartsl, xlinksA, xlinksc, xlinksl, xrulesA, xrulesc, xrulesl⟩ := x
  have HTOT := Lib.hid (show L.length + (xvarsl.length + xtal.length + xemitsl.length + (ifL m xemitsl).length + xintl.length + xextl.length + xownl.length + xrulesl.length) ≤ 1048576 from by have h := mdL_len m (.mk xn xcp xinsA xinsc xinsl xoutsA xoutsc xoutsl xvarsA xvarsc xvarsl xtaA xtac xtal xemitsA xemitsc xemitsl xintA xintc xintl xextA xextc xextl xcon xownA xownc xownl xpartsA xpartsc xpartsl xlinksA xlinksc xlinksl xrulesA xrulesc xrulesl); simp only [mdL, List.length_append, spL_len, Md.vars_, Md.ta_, Md.emits_, Md.int_, Md.ext_, Md.own_, Md.rules_] at h; have hnl := hS.len; rw [← h] at hl; omega)
  have HB := Lib.hid hB
  have HLOW := Lib.hid hS.low
  have HRvars := Lib.hid (show RowX Se.cs 6 Se.Li W0 xvarsA xvarsl from hLi.2.2.2.2.1)
  have HMvars := Lib.hid (show ∀ s ∈ xvarsl, s.e_.sm = true from fun s hs => hsm _ (mem_vars (x := .mk xn xcp xinsA xinsc xinsl xoutsA xoutsc xoutsl xvarsA xvarsc xvarsl xtaA xtac xtal xemitsA xemitsc xemitsl xintA xintc xintl xextA xextc xextl xcon xownA xownc xownl xpartsA xpartsc xpartsl xlinksA xlinksc xlinksl xrulesA xrulesc xrulesl) hs))
  have HRint := Lib.hid (show RowX Se.cs 6 Se.Li W0 xintA xintl from hLi.2.2.2.2.2.2.2.1)
  have HMint := Lib.hid (show ∀ s ∈ xintl, s.e_.sm = true from fun s hs => hsm _ (mem_int (x := .mk xn xcp xinsA xinsc xinsl xoutsA xoutsc xoutsl xvarsA xvarsc xvarsl xtaA xtac xtal xemitsA xemitsc xemitsl xintA xintc xintl xextA xextc xextl xcon xownA xownc xownl xpartsA xpartsc xpartsl xlinksA xlinksc xlinksl xrulesA xrulesc xrulesl) hs))
  have HRext := Lib.hid (show RowX Se.cs 6 Se.Li W0 xextA xextl from hLi.2.2.2.2.2.2.2.2.1)
  have HMext := Lib.hid (show ∀ s ∈ xextl, s.e_.sm = true from fun s hs => hsm _ (mem_ext (x := .mk xn xcp xinsA xinsc xinsl xoutsA xoutsc xoutsl xvarsA xvarsc xvarsl xtaA xtac xtal xemitsA xemitsc xemitsl xintA xintc xintl xextA xextc xextl xcon xownA xownc xownl xpartsA xpartsc xpartsl xlinksA xlinksc xlinksl xrulesA xrulesc xrulesl) hs))
  have HRown := Lib.hid (show RowX Se.cs 6 Se.Li W0 xownA xownl from hLi.2.2.2.2.2.2.2.2.2.2.1)
  have HMown := Lib.hid (show ∀ s ∈ xownl, s.e_.sm = true from fun s hs => hsm _ (mem_own (x := .mk xn xcp xinsA xinsc xinsl xoutsA xoutsc xoutsl xvarsA xvarsc xvarsl xtaA xtac xtal xemitsA xemitsc xemitsl xintA xintc xintl xextA xextc xextl xcon xownA xownc xownl xpartsA xpartsc xpartsl xlinksA xlinksc xlinksl xrulesA xrulesc xrulesl) hs))
  have HRta := Lib.hid (show RowL W0 xtaA xtal from hLi.2.2.2.2.2.1)
  have HMta := Lib.hid (show ∀ s ∈ xtal, s.sm = true from fun s hs => hsm _ (mem_ta (x := .mk xn xcp xinsA xinsc xinsl xoutsA xoutsc xoutsl xvarsA xvarsc xvarsl xtaA xtac xtal xemitsA xemitsc xemitsl xintA xintc xintl xextA xextc xextl xcon xownA xownc xownl xpartsA xpartsc xpartsl xlinksA xlinksc xlinksl xrulesA xrulesc xrulesl) hs))
  have HRemits := Lib.hid (show RowX Em.cs 7 Em.Li W0 xemitsA xemitsl from hLi.2.2.2.2.2.2.1)
  have HMemits := Lib.hid (show ∀ s ∈ xemitsl, s.e_.sm = true from fun s hs => hsm _ (mem_emits (x := .mk xn xcp xinsA xinsc xinsl xoutsA xoutsc xoutsl xvarsA xvarsc xvarsl xtaA xtac xtal xemitsA xemitsc xemitsl xintA xintc xintl xextA xextc xextl xcon xownA xownc xownl xpartsA xpartsc xpartsl xlinksA xlinksc xlinksl xrulesA xrulesc xrulesl) hs))
  have HMifs := Lib.hid (show ∀ s ∈ xemitsl, ∀ t ∈ s.i_, t.sm = true from fun s hs t ht => hsm _ (mem_ifs (x := .mk xn xcp xinsA xinsc xinsl xoutsA xoutsc xoutsl xvarsA xvarsc xvarsl xtaA xtac xtal xemitsA xemitsc xemitsl xintA xintc xintl xextA xextc xextl xcon xownA xownc xownl xpartsA xpartsc xpartsl xlinksA xlinksc xlinksl xrulesA xrulesc xrulesl) hs ht))
  have HRrules := Lib.hid (show RowX Ru.cs 6 Ru.Li W0 xrulesA xrulesl from hLi.2.2.2.2.2.2.2.2.2.2.2.2.2)
  have HMrules := Lib.hid (show ∀ s ∈ xrulesl, s.e_.sm = true from fun s hs => hsm _ (mem_rules (x := .mk xn xcp xinsA xinsc xinsl xoutsA xoutsc xoutsl xvarsA xvarsc xvarsl xtaA xtac xtal xemitsA xemitsc xemitsl xintA xintc xintl xextA xextc xextl xcon xownA xownc xownl xpartsA xpartsc xpartsl xlinksA xlinksc xlinksl xrulesA xrulesc xrulesl) hs))
  have HEQ := Lib.hid (mdL_eq m (.mk xn xcp xinsA xinsc xinsl xoutsA xoutsc xoutsl xvarsA xvarsc xvarsl xtaA xtac xtal xemitsA xemitsc xemitsl xintA xintc xintl xextA xextc xextl xcon xownA xownc xownl xpartsA xpartsc xpartsl xlinksA xlinksc xlinksl xrulesA xrulesc xrulesl) L)
  have HX := Lib.hid (Blk.new w 70 #[.string xn, .bool xcp, .slice xinsA xinsl.length xinsc, .slice xoutsA xoutsl.length xoutsc, .slice xvarsA xvarsl.length xvarsc, .slice xtaA xtal.length xtac, .slice xemitsA xemitsl.length xemitsc, .slice xintA xintl.length xintc, .slice xextA xextl.length xextc, .int .i64 xcon, .slice xownA xownl.length xownc, .slice xpartsA xpartsl.length xpartsc, .slice xlinksA xlinksl.length xlinksc, .slice xrulesA xrulesl.length xrulesc])
  have o1 : Only [] w (w.alloc (.cells #[.string xn, .bool xcp, .slice xinsA xinsl.length xinsc, .slice xoutsA xoutsl.length xoutsc, .slice xvarsA xvarsl.length xvarsc, .slice xtaA xtal.length xtac, .slice xemitsA xemitsl.length xemitsc, .slice xintA xintl.length xintc, .slice xextA xextl.length xextc, .int .i64 xcon, .slice xownA xownl.length xownc, .slice xpartsA xpartsl.length xpartsc, .slice xlinksA xlinksl.length xlinksc, .slice xrulesA xrulesl.length xrulesc] 70)) := (Only.refl _ _).alloc _
  have HBW := Lib.hid hBw
  have HNE := Lib.hid (show ∀ p, A = some p → p.block ≠ w.heap.size from fun p hp => by have := (HLOW.out p hp).2; omega)
  have HAB := Lib.hid (show ∀ p, A = some p → W0.heap.size ≤ p.block from fun p hp => Nat.le_trans hB (hS.low p hp).1)
  have HO1 := Lib.hid (hO.trans o1 (by simp))
  have HBW1 := Lib.hid (Nat.le_trans hBw o1.size)
  have HS0 := Lib.hid (hS.keep o1)
  have HGB := Lib.hid (GrowR.still (A := A) o1)
  show Calls Tryd.prog 51 #[.slice A n c, .int .i64 m, .agg #[.string xn, .bool xcp, .slice xinsA xinsl.length xinsc, .slice xoutsA xoutsl.length xoutsc, .slice xvarsA xvarsl.length xvarsc, .slice xtaA xtal.length xtac, .slice xemitsA xemitsl.length xemitsc, .slice xintA xintl.length xintc, .slice xextA xextl.length xextc, .int .i64 xcon, .slice xownA xownl.length xownc, .slice xpartsA xpartsl.length xpartsc, .slice xlinksA xlinksl.length xlinksc, .slice xrulesA xrulesl.length xrulesc]] w (SpOut B w A (L ++ mdL m (.mk xn xcp xinsA xinsc xinsl xoutsA xoutsc xoutsl xvarsA xvarsc xvarsl xtaA xtac xtal xemitsA xemitsc xemitsl xintA xintc xintl xextA xextc xextl xcon xownA xownc xownl xpartsA xpartsc xpartsl xlinksA xlinksc xlinksl xrulesA xrulesc xrulesl)))
  clear hB hBw hO hS hLi hsm hl o1
  go_enter Tryd.func51, Tryd.ntmps51
  obtain ⟨bx0, bx1, bx2, bx3, bx4, bx5, bx6, bx7, bx8, bx9, bx10, bx11, bx12, bx13, bxl⟩ := HX.out.facts14
  clear bx0 bx1 bx2 bx3 bx5 bx6 bx7 bx8 bx9 bx10 bx11 bx12 bx13
  go_wp2_with (fail)
  obtain ⟨wB, hw1⟩ : ∃ W : World, w.alloc (.cells #[.string xn, .bool xcp, .slice xinsA xinsl.length xinsc, .slice xoutsA xoutsl.length xoutsc, .slice xvarsA xvarsl.length xvarsc, .slice xtaA xtal.length xtac, .slice xemitsA xemitsl.length xemitsc, .slice xintA xintl.length xintc, .slice xextA xextl.length xextc, .int .i64 xcon, .slice xownA xownl.length xownc, .slice xpartsA xpartsl.length xpartsc, .slice xlinksA xlinksl.length xlinksc, .slice xrulesA xrulesl.length xrulesc] 70) = W := ⟨_, rfl⟩
  rw [hw1] at HX HO1 HBW1 HS0 HGB ⊢
  clear hw1 bx4 bxl
  have HG0 := Lib.hid (GrowR.refl wB A)
  obtain ⟨A0, hA0⟩ : ∃ q, q = A := ⟨_, rfl⟩
  obtain ⟨c0, hc0⟩ : ∃ q, q = c := ⟨_, rfl⟩
  refine (setspots_any (m := m) (p := 0) HB.out (Nat.le_trans HBW1.out HG0.out.only.size) (HG0.out.base HO1.out HAB.out) HS0.out HRvars.out HMvars.out (by have h1 := HS0.out.len; have h2 := HTOT.out; (try simp only [ifL_len] at h1 h2); omega)).mono ?_
  rintro r w1 ⟨A1, c1, j1, rfl, hs, hg⟩
  have HS1 := Lib.hid hs
  have HG1 := Lib.hid (HG0.out.trans hg)
  clear hs hg hA0 hc0 A0 c0
  obtain ⟨bx0, bx1, bx2, bx3, bx4, bx5, bx6, bx7, bx8, bx9, bx10, bx11, bx12, bx13, bxl⟩ := (HG1.out.blk HX.out HNE.out).facts14
  clear bx0 bx1 bx2 bx3 bx4 bx6 bx7 bx8 bx9 bx10 bx11 bx12 bx13
  go_wp2_with (fail)
  clear bx5 bxl
  have hlenta := HRta.out.len
  go_loopw [0, 25] (fun l i wr => ∃ (k j : Nat) (A' : Option Addr) (c' : Nat), l = .slice A' j c' ∧ i = .int .i64 k ∧ k ≤ xtal.length ∧ Hid (SpSt B wr A' c' j (L ++ spL Se.e_ m 0 xvarsl ++ spL id m 1 (xtal.take k))) ∧ Hid (GrowR wB A wr A')) (fun _ i _ => xtal.length - (intOf i).toNat)
  case atStart => exact ⟨0, j1, A1, c1, rfl, rfl, Nat.zero_le _, Lib.hid (HS1.out.to (by rw [List.take_zero]; simp [spL])), HG1⟩
  case round =>
    obtain ⟨k, j, A', c', rfl, rfl, hk, HX', HG'⟩ := hrel
    have HOr := Lib.hid (HG'.out.base HO1.out HAB.out)
    by_cases hlt : k < xtal.length
    · obtain ⟨e, he⟩ : ∃ e, xtal[k]? = some e := ⟨_, List.getElem?_eq_getElem hlt⟩
      have hmem : e ∈ xtal := List.mem_of_getElem? he
      have hTK := spL_take (f := id) (m := m) (p := 1) he
      have hrow := (HRta.out.row k _ he).only HOr.out (by simp)
      have hcp := copy7 ((HRta.out.sub e hmem).keep HOr.out) (HMta.out e hmem)
      clear he hmem
      obtain ⟨yo, yn, ys, yu, yA, yc, yl⟩ := e
      obtain ⟨b, o, rfl, hb, c0x, c1x, c2x, c3x, c4x⟩ := hrow.cells
      have HTK := Lib.hid hTK
      have HC := Lib.hid (show ∀ W, Only [] wr W → Calls Tryd.prog 33 #[.agg #[.int .i64 yo, .int .i64 yn, .string ys, .string yu, .slice yA yl.length yc]] W fun r w' => ∃ zo zn zs zu zA zc zl, r = .returned (.agg #[.int .i64 zo, .int .i64 zn, .string zs, .string zu, .slice zA (List.length zl) zc]) ∧ Cp W.heap.size w' (Ex.mk yo yn ys yu yA yc yl) (.mk zo zn zs zu zA zc zl) ∧ Only [] W w' from hcp)
      have hki : (0 : Int) ≤ (k : Int) := by omega
      have hki2 : (k : Int) < (xtal.length : Int) := by omega
      have HO2 := Lib.hid (show Only [] wr (wr.alloc (.cells #[.int .i64 yo, .int .i64 yn, .string ys, .string yu, .slice yA yl.length yc] 24)) from (Only.refl _ _).alloc _)
      clear hrow hcp hTK
      go_wp2_with (fail)
      refine (HC.out _ HO2.out).mono ?_
      rintro r w3 ⟨zo, zn, zs, zu, zA, zc, zl, rfl, hcp, o3⟩
      have HCP := Lib.hid hcp
      have HO3 := Lib.hid (HO2.out.trans o3 (by simp))
      clear hcp o3 hb c0x c1x c2x c3x c4x
      have hz := Blk.new w3 87 #[.int .i64 m, .int .i64 1, .int .i64 k, .int .i64 0, .int .i64 zo, .int .i64 zn, .string zs, .string zu, .slice zA zl.length zc]
      have o4 : Only [] w3 (w3.alloc (.cells #[.int .i64 m, .int .i64 1, .int .i64 k, .int .i64 0, .int .i64 zo, .int .i64 zn, .string zs, .string zu, .slice zA zl.length zc] 87)) := (Only.refl _ _).alloc _
      obtain ⟨A9, c9, w9, hrun, hS9, hG9⟩ := HX'.out.app (z := w3.heap.size) (m := m) (p := 1) (i := k) (e := Ex.mk yo yn ys yu yA yc yl) (e' := .mk zo zn zs zu zA zc zl) (HO3.out.trans o4 (by simp)) (Nat.le_trans HBW1.out HG'.out.only.size) (HCP.out.keep o4) HO2.out.size (fun j u hj => by rw [hz.cell]; simpa [Sp.cs] using hj) (by have h1 := HX'.out.len; have h2 := HTOT.out; (try simp only [List.length_append, spL_len, ifL_len, List.length_take] at h1 h2); omega)
      have HX9 := Lib.hid (hS9.to (show _ = L ++ spL Se.e_ m 0 xvarsl ++ spL id m 1 (xtal.take (k + 1)) from by rw [HTK.out, ← List.append_assoc]; rfl))
      have HG9 := Lib.hid (HG'.out.trans hG9)
      clear hz o4 hS9 hG9
      go_wp2_with (at_builtin; refine wpList_append_run hrun rfl _ _ rfl rfl rfl rfl ?_)
      go_roundw
      case rel => exact ⟨k + 1, j + 1, A9, c9, rfl, by go_num, by omega, HX9, HG9⟩
      case measure => simp [intOf] <;> omega
    · obtain rfl : k = xtal.length := by omega
      have iz : ¬ (xtal.length : Int) < (xtal.length : Int) := by omega
      have HS2 := Lib.hid (HX'.out.to (show _ = L ++ spL Se.e_ m 0 xvarsl ++ spL id m 1 xtal from by rw [List.take_length]))
      have HG2 := HG'
      obtain ⟨w2, hwq⟩ : ∃ wq : World, wq = wr := ⟨_, rfl⟩
      subst hwq
      obtain ⟨A2, hAq⟩ : ∃ q, q = A' := ⟨_, rfl⟩
      subst hAq
      obtain ⟨c2, hAq⟩ : ∃ q, q = c' := ⟨_, rfl⟩
      subst hAq
      obtain ⟨j2, hAq⟩ : ∃ q, q = j := ⟨_, rfl⟩
      subst hAq
      clear HX' HG' HOr hlt hk
      obtain ⟨bx0, bx1, bx2, bx3, bx4, bx5, bx6, bx7, bx8, bx9, bx10, bx11, bx12, bx13, bxl⟩ := (HG2.out.blk HX.out HNE.out).facts14
      clear bx0 bx1 bx2 bx3 bx4 bx5 bx7 bx8 bx9 bx10 bx11 bx12 bx13
      go_wp2_with (fail)
      clear bx6 bxl
      have hlenemits := HRemits.out.len
      go_loopw [0, 43] (fun l i wr => ∃ (k j : Nat) (A' : Option Addr) (c' : Nat), l = .slice A' j c' ∧ i = .int .i64 k ∧ k ≤ xemitsl.length ∧ Hid (SpSt B wr A' c' j (L ++ spL Se.e_ m 0 xvarsl ++ spL id m 1 xtal ++ spL Em.e_ m 2 (xemitsl.take k))) ∧ Hid (GrowR wB A wr A')) (fun _ i _ => xemitsl.length - (intOf i).toNat)
      case atStart => exact ⟨0, j2, A2, c2, rfl, rfl, Nat.zero_le _, Lib.hid (HS2.out.to (by rw [List.take_zero]; simp [spL])), HG2⟩
      case round =>
        obtain ⟨k, j, A', c', rfl, rfl, hk, HX', HG'⟩ := hrel
        have HOr := Lib.hid (HG'.out.base HO1.out HAB.out)
        by_cases hlt : k < xemitsl.length
        · obtain ⟨e, he⟩ : ∃ e, xemitsl[k]? = some e := ⟨_, List.getElem?_eq_getElem hlt⟩
          have hmem : e ∈ xemitsl := List.mem_of_getElem? he
          have hTK := spL_take (f := Em.e_) (m := m) (p := 2) he
          have hrow := (HRemits.out.row k _ he).keep HOr.out
          have hcp := copy7 ((Em.Li.keep _ _ _ (HRemits.out.sub e hmem) HOr.out).2.1) (HMemits.out e hmem)
          clear he hmem
          obtain ⟨yp, yeo, yen, yes, yeu, yeA, yec, yel, yiA, yic, yil⟩ := e
          obtain ⟨b, o, rfl, hb, c0x, c1x, c2x, c3x, c4x, c5x, c6x⟩ := Em.at_cells hrow
          have HTK := Lib.hid hTK
          have HC := Lib.hid (show ∀ W, Only [] wr W → Calls Tryd.prog 33 #[.agg #[.int .i64 yeo, .int .i64 yen, .string yes, .string yeu, .slice yeA yel.length yec]] W fun r w' => ∃ zo zn zs zu zA zc zl, r = .returned (.agg #[.int .i64 zo, .int .i64 zn, .string zs, .string zu, .slice zA (List.length zl) zc]) ∧ Cp W.heap.size w' (Ex.mk yeo yen yes yeu yeA yec yel) (.mk zo zn zs zu zA zc zl) ∧ Only [] W w' from hcp)
          have hki : (0 : Int) ≤ (k : Int) := by omega
          have hki2 : (k : Int) < (xemitsl.length : Int) := by omega
          have HO2 := Lib.hid (show Only [] wr (wr.alloc (.cells #[.string yp, .int .i64 yeo, .int .i64 yen, .string yes, .string yeu, .slice yeA yel.length yec, .slice yiA yil.length yic] 74)) from (Only.refl _ _).alloc _)
          clear hrow hcp hTK
          go_wp2_with (fail)
          refine (HC.out _ HO2.out).mono ?_
          rintro r w3 ⟨zo, zn, zs, zu, zA, zc, zl, rfl, hcp, o3⟩
          have HCP := Lib.hid hcp
          have HO3 := Lib.hid (HO2.out.trans o3 (by simp))
          clear hcp o3 hb c0x c1x c2x c3x c4x c5x c6x
          have hz := Blk.new w3 87 #[.int .i64 m, .int .i64 2, .int .i64 k, .int .i64 0, .int .i64 zo, .int .i64 zn, .string zs, .string zu, .slice zA zl.length zc]
          have o4 : Only [] w3 (w3.alloc (.cells #[.int .i64 m, .int .i64 2, .int .i64 k, .int .i64 0, .int .i64 zo, .int .i64 zn, .string zs, .string zu, .slice zA zl.length zc] 87)) := (Only.refl _ _).alloc _
          obtain ⟨A9, c9, w9, hrun, hS9, hG9⟩ := HX'.out.app (z := w3.heap.size) (m := m) (p := 2) (i := k) (e := Ex.mk yeo yen yes yeu yeA yec yel) (e' := .mk zo zn zs zu zA zc zl) (HO3.out.trans o4 (by simp)) (Nat.le_trans HBW1.out HG'.out.only.size) (HCP.out.keep o4) HO2.out.size (fun j u hj => by rw [hz.cell]; simpa [Sp.cs] using hj) (by have h1 := HX'.out.len; have h2 := HTOT.out; (try simp only [List.length_append, spL_len, ifL_len, List.length_take] at h1 h2); omega)
          have HX9 := Lib.hid (hS9.to (show _ = L ++ spL Se.e_ m 0 xvarsl ++ spL id m 1 xtal ++ spL Em.e_ m 2 (xemitsl.take (k + 1)) from by rw [HTK.out, ← List.append_assoc]; rfl))
          have HG9 := Lib.hid (HG'.out.trans hG9)
          clear hz o4 hS9 hG9
          go_wp2_with (at_builtin; refine wpList_append_run hrun rfl _ _ rfl rfl rfl rfl ?_)
          go_roundw
          case rel => exact ⟨k + 1, j + 1, A9, c9, rfl, by go_num, by omega, HX9, HG9⟩
          case measure => simp [intOf] <;> omega
        · obtain rfl : k = xemitsl.length := by omega
          have iz : ¬ (xemitsl.length : Int) < (xemitsl.length : Int) := by omega
          have HS3 := Lib.hid (HX'.out.to (show _ = L ++ spL Se.e_ m 0 xvarsl ++ spL id m 1 xtal ++ spL Em.e_ m 2 xemitsl from by rw [List.take_length]))
          have HG3 := HG'
          obtain ⟨w3, hwq⟩ : ∃ wq : World, wq = wr := ⟨_, rfl⟩
          subst hwq
          obtain ⟨A3, hAq⟩ : ∃ q, q = A' := ⟨_, rfl⟩
          subst hAq
          obtain ⟨c3, hAq⟩ : ∃ q, q = c' := ⟨_, rfl⟩
          subst hAq
          obtain ⟨j3, hAq⟩ : ∃ q, q = j := ⟨_, rfl⟩
          subst hAq
          clear HX' HG' HOr hlt hk
          obtain ⟨bx0, bx1, bx2, bx3, bx4, bx5, bx6, bx7, bx8, bx9, bx10, bx11, bx12, bx13, bxl⟩ := (HG3.out.blk HX.out HNE.out).facts14
          clear bx0 bx1 bx2 bx3 bx4 bx5 bx7 bx8 bx9 bx10 bx11 bx12 bx13
          go_wp2_with (fail)
          clear bx6 bxl
          go_loopw [0, 62, 70] (fun l i q wr => ∃ (k j : Nat) (A' : Option Addr) (c' : Nat) (q9 : Value), l = .slice A' j c' ∧ i = .int .i64 k ∧ q = q9 ∧ k ≤ xemitsl.length ∧ Hid (SpSt B wr A' c' j (L ++ spL Se.e_ m 0 xvarsl ++ spL id m 1 xtal ++ spL Em.e_ m 2 xemitsl ++ ifL m (xemitsl.take k))) ∧ Hid (GrowR wB A wr A')) (fun _ i _ _ => xemitsl.length - (intOf i).toNat)
          case atStart => exact ⟨0, j3, A3, c3, _, rfl, rfl, rfl, Nat.zero_le _, Lib.hid (HS3.out.to (by rw [List.take_zero]; simp [ifL])), HG3⟩
          case round =>
            obtain ⟨k, j, A', c', q9, rfl, rfl, rfl, hk, HX', HG'⟩ := hrel
            have HOr := Lib.hid (HG'.out.base HO1.out HAB.out)
            by_cases hlt : k < xemitsl.length
            · obtain ⟨e, he⟩ : ∃ e, xemitsl[k]? = some e := ⟨_, List.getElem?_eq_getElem hlt⟩
              have hmem : e ∈ xemitsl := List.mem_of_getElem? he
              have HTK := Lib.hid (ifL_take (m := m) he)
              have HLE := Lib.hid (ifL_le (m := m) he)
              have hrow := (HRemits.out.row k _ he).keep HOr.out
              have hsub := (HRemits.out.sub e hmem)
              have HMI := Lib.hid (HMifs.out e hmem)
              clear he hmem
              obtain ⟨yp, yeo, yen, yes, yeu, yeA, yec, yel, yiA, yic, yil⟩ := e
              have HRI := Lib.hid (show RowL W0 yiA yil from hsub.2.2)
              obtain ⟨b, o, rfl, hb, c0x, c1x, c2x, c3x, c4x, c5x, c6x⟩ := Em.at_cells hrow
              have hki : (0 : Int) ≤ (k : Int) := by omega
              have hki2 : (k : Int) < (xemitsl.length : Int) := by omega
              have hlI := HRI.out.len
              have HO2 := Lib.hid (show Only [] wr (wr.alloc (.cells #[.string yp, .int .i64 yeo, .int .i64 yen, .string yes, .string yeu, .slice yeA yel.length yec, .slice yiA yil.length yic] 74)) from (Only.refl _ _).alloc _)
              clear hrow hsub
              go_wp2_with (fail)
              obtain ⟨wv, hwv⟩ : ∃ W : World, wr.alloc (.cells #[.string yp, .int .i64 yeo, .int .i64 yen, .string yes, .string yeu, .slice yeA yel.length yec, .slice yiA yil.length yic] 74) = W := ⟨_, rfl⟩
              rw [hwv] at HO2 ⊢
              clear hwv hb c0x c1x c2x c3x c4x c5x c6x
              have HXv := Lib.hid (HX'.out.keep HO2.out)
              have HGv := Lib.hid (HG'.out.trans (GrowR.still HO2.out))
              go_loopw [0, 70] (fun l i wr => ∃ (k2 j : Nat) (A' : Option Addr) (c' : Nat), l = .slice A' j c' ∧ i = .int .i64 k2 ∧ k2 ≤ yil.length ∧ Hid (SpSt B wr A' c' j (L ++ spL Se.e_ m 0 xvarsl ++ spL id m 1 xtal ++ spL Em.e_ m 2 xemitsl ++ ifL m (xemitsl.take k) ++ (yil.take k2).map fun e => (⟨m, 3, k, e⟩ : Sp))) ∧ Hid (GrowR wB A wr A')) (fun _ i _ => yil.length - (intOf i).toNat)
              case atStart => exact ⟨0, j, A', c', rfl, rfl, Nat.zero_le _, Lib.hid (HXv.out.to (by rw [List.take_zero]; simp)), HGv⟩
              case round =>
                obtain ⟨k2, j2, A2, c2, rfl, rfl, hk2, HX2, HG2⟩ := hrel
                have HOs := Lib.hid (HG2.out.base HO1.out HAB.out)
                by_cases hlt2 : k2 < yil.length
                · obtain ⟨t, ht⟩ : ∃ t, yil[k2]? = some t := ⟨_, List.getElem?_eq_getElem hlt2⟩
                  have hmem : t ∈ yil := List.mem_of_getElem? ht
                  have HTK2 := Lib.hid (show ((yil.take (k2 + 1)).map fun e => (⟨m, 3, k, e⟩ : Sp)) = ((yil.take k2).map fun e => (⟨m, 3, k, e⟩ : Sp)) ++ [⟨m, 3, k, t⟩] from by rw [List.take_add_one, ht, List.map_append]; rfl)
                  have hrow := (HRI.out.row k2 _ ht).only HOs.out (by simp)
                  have hcp := copy7 ((HRI.out.sub t hmem).keep HOs.out) (HMI.out t hmem)
                  clear ht hmem
                  obtain ⟨to_, tn, ts, tu, tA, tc, tl⟩ := t
                  obtain ⟨b2, o2, rfl, hb, c0x, c1x, c2x, c3x, c4x⟩ := hrow.cells
                  have HC := Lib.hid (show ∀ W, Only [] wr W → Calls Tryd.prog 33 #[.agg #[.int .i64 to_, .int .i64 tn, .string ts, .string tu, .slice tA tl.length tc]] W fun r w' => ∃ zo zn zs zu zA zc zl, r = .returned (.agg #[.int .i64 zo, .int .i64 zn, .string zs, .string zu, .slice zA (List.length zl) zc]) ∧ Cp W.heap.size w' (Ex.mk to_ tn ts tu tA tc tl) (.mk zo zn zs zu zA zc zl) ∧ Only [] W w' from hcp)
                  have hk2i : (0 : Int) ≤ (k2 : Int) := by omega
                  have hk2i2 : (k2 : Int) < (yil.length : Int) := by omega
                  have HO4 := Lib.hid (show Only [] wr (wr.alloc (.cells #[.int .i64 to_, .int .i64 tn, .string ts, .string tu, .slice tA tl.length tc] 24)) from (Only.refl _ _).alloc _)
                  clear hrow hcp
                  go_wp2_with (fail)
                  refine (HC.out _ HO4.out).mono ?_
                  rintro r w3 ⟨zo, zn, zs, zu, zA, zc, zl, rfl, hcp, o3⟩
                  have HCP := Lib.hid hcp
                  have HO3 := Lib.hid (HO4.out.trans o3 (by simp))
                  clear hcp o3 hb c0x c1x c2x c3x c4x
                  have hz := Blk.new w3 87 #[.int .i64 m, .int .i64 3, .int .i64 k, .int .i64 0, .int .i64 zo, .int .i64 zn, .string zs, .string zu, .slice zA zl.length zc]
                  have o4 : Only [] w3 (w3.alloc (.cells #[.int .i64 m, .int .i64 3, .int .i64 k, .int .i64 0, .int .i64 zo, .int .i64 zn, .string zs, .string zu, .slice zA zl.length zc] 87)) := (Only.refl _ _).alloc _
                  obtain ⟨A9, c9, w9, hrun, hS9, hG9⟩ := HX2.out.app (z := w3.heap.size) (m := m) (p := 3) (i := k) (e := Ex.mk to_ tn ts tu tA tc tl) (e' := .mk zo zn zs zu zA zc zl) (HO3.out.trans o4 (by simp)) (Nat.le_trans HBW1.out HG2.out.only.size) (HCP.out.keep o4) HO4.out.size (fun j u hj => by rw [hz.cell]; simpa [Sp.cs] using hj) (by have h1 := HX2.out.len; have h2 := HTOT.out; have h3 := HLE.out; simp only [List.length_append, spL_len, List.length_map, List.length_take, Em.i_] at h1 h3; omega)
                  have HX9 := Lib.hid (hS9.to (show _ = L ++ spL Se.e_ m 0 xvarsl ++ spL id m 1 xtal ++ spL Em.e_ m 2 xemitsl ++ ifL m (xemitsl.take k) ++ ((yil.take (k2 + 1)).map fun e => (⟨m, 3, k, e⟩ : Sp)) from by rw [HTK2.out, ← List.append_assoc]))
                  have HG9 := Lib.hid (HG2.out.trans hG9)
                  clear hz o4 hS9 hG9
                  go_wp2_with (at_builtin; refine wpList_append_run hrun rfl _ _ rfl rfl rfl rfl ?_)
                  go_roundw
                  case rel => exact ⟨k2 + 1, j2 + 1, A9, c9, rfl, by go_num, by omega, HX9, HG9⟩
                  case measure => simp [intOf] <;> omega
                · obtain rfl : k2 = yil.length := by omega
                  have iz : ¬ (yil.length : Int) < (yil.length : Int) := by omega
                  go_wp2_with (fail)
                  go_roundw
                  case rel => exact ⟨k + 1, j2, A2, c2, _, rfl, by go_num, rfl, by omega, Lib.hid (HX2.out.to (by rw [HTK.out, List.take_length, ← List.append_assoc]; rfl)), HG2⟩
                  case measure => simp [intOf] <;> omega
            · obtain rfl : k = xemitsl.length := by omega
              have iz : ¬ (xemitsl.length : Int) < (xemitsl.length : Int) := by omega
              have HS4 := Lib.hid (HX'.out.to (show _ = L ++ spL Se.e_ m 0 xvarsl ++ spL id m 1 xtal ++ spL Em.e_ m 2 xemitsl ++ ifL m xemitsl from by rw [List.take_length]))
              have HG4 := HG'
              obtain ⟨w4, hwq⟩ : ∃ wq : World, wq = wr := ⟨_, rfl⟩
              subst hwq
              obtain ⟨A4, hAq⟩ : ∃ q, q = A' := ⟨_, rfl⟩
              subst hAq
              obtain ⟨c4, hAq⟩ : ∃ q, q = c' := ⟨_, rfl⟩
              subst hAq
              obtain ⟨j4, hAq⟩ : ∃ q, q = j := ⟨_, rfl⟩
              subst hAq
              clear HX' HG' HOr hlt hk
              obtain ⟨bx0, bx1, bx2, bx3, bx4, bx5, bx6, bx7, bx8, bx9, bx10, bx11, bx12, bx13, bxl⟩ := (HG4.out.blk HX.out HNE.out).facts14
              clear bx0 bx1 bx2 bx3 bx4 bx5 bx6 bx8 bx9 bx10 bx11 bx12 bx13
              go_wp2_with (fail)
              refine (setspots_any (m := m) (p := 4) HB.out (Nat.le_trans HBW1.out HG4.out.only.size) (HG4.out.base HO1.out HAB.out) HS4.out HRint.out HMint.out (by have h1 := HS4.out.len; have h2 := HTOT.out; (try simp only [List.length_append, spL_len, ifL_len] at h1 h2); omega)).mono ?_
              rintro r w5 ⟨A5, c5, j5, rfl, hs, hg⟩
              have HS5 := Lib.hid hs
              have HG5 := Lib.hid (HG4.out.trans hg)
              clear hs hg bx7 bxl
              obtain ⟨bx0, bx1, bx2, bx3, bx4, bx5, bx6, bx7, bx8, bx9, bx10, bx11, bx12, bx13, bxl⟩ := (HG5.out.blk HX.out HNE.out).facts14
              clear bx0 bx1 bx2 bx3 bx4 bx5 bx6 bx7 bx9 bx10 bx11 bx12 bx13
              go_wp2_with (fail)
              refine (setspots_any (m := m) (p := 5) HB.out (Nat.le_trans HBW1.out HG5.out.only.size) (HG5.out.base HO1.out HAB.out) HS5.out HRext.out HMext.out (by have h1 := HS5.out.len; have h2 := HTOT.out; (try simp only [List.length_append, spL_len, ifL_len] at h1 h2); omega)).mono ?_
              rintro r w6 ⟨A6, c6, j6, rfl, hs, hg⟩
              have HS6 := Lib.hid hs
              have HG6 := Lib.hid (HG5.out.trans hg)
              clear hs hg bx8 bxl
              obtain ⟨bx0, bx1, bx2, bx3, bx4, bx5, bx6, bx7, bx8, bx9, bx10, bx11, bx12, bx13, bxl⟩ := (HG6.out.blk HX.out HNE.out).facts14
              clear bx0 bx1 bx2 bx3 bx4 bx5 bx6 bx7 bx8 bx9 bx11 bx12 bx13
              go_wp2_with (fail)
              refine (setspots_any (m := m) (p := 6) HB.out (Nat.le_trans HBW1.out HG6.out.only.size) (HG6.out.base HO1.out HAB.out) HS6.out HRown.out HMown.out (by have h1 := HS6.out.len; have h2 := HTOT.out; (try simp only [List.length_append, spL_len, ifL_len] at h1 h2); omega)).mono ?_
              rintro r w7 ⟨A7, c7, j7, rfl, hs, hg⟩
              have HS7 := Lib.hid hs
              have HG7 := Lib.hid (HG6.out.trans hg)
              clear hs hg bx10 bxl
              obtain ⟨bx0, bx1, bx2, bx3, bx4, bx5, bx6, bx7, bx8, bx9, bx10, bx11, bx12, bx13, bxl⟩ := (HG7.out.blk HX.out HNE.out).facts14
              clear bx0 bx1 bx2 bx3 bx4 bx5 bx6 bx7 bx8 bx9 bx10 bx11 bx12
              go_wp2_with (fail)
              clear bx13 bxl
              have hlenrules := HRrules.out.len
              go_loopw [0, 103] (fun l i wr => ∃ (k j : Nat) (A' : Option Addr) (c' : Nat), l = .slice A' j c' ∧ i = .int .i64 k ∧ k ≤ xrulesl.length ∧ Hid (SpSt B wr A' c' j (L ++ spL Se.e_ m 0 xvarsl ++ spL id m 1 xtal ++ spL Em.e_ m 2 xemitsl ++ ifL m xemitsl ++ spL Se.e_ m 4 xintl ++ spL Se.e_ m 5 xextl ++ spL Se.e_ m 6 xownl ++ spL Ru.e_ m 7 (xrulesl.take k))) ∧ Hid (GrowR wB A wr A')) (fun _ i _ => xrulesl.length - (intOf i).toNat)
              case atStart => exact ⟨0, j7, A7, c7, rfl, rfl, Nat.zero_le _, Lib.hid (HS7.out.to (by rw [List.take_zero]; simp [spL])), HG7⟩
              case round =>
                obtain ⟨k, j, A', c', rfl, rfl, hk, HX', HG'⟩ := hrel
                have HOr := Lib.hid (HG'.out.base HO1.out HAB.out)
                by_cases hlt : k < xrulesl.length
                · obtain ⟨e, he⟩ : ∃ e, xrulesl[k]? = some e := ⟨_, List.getElem?_eq_getElem hlt⟩
                  have hmem : e ∈ xrulesl := List.mem_of_getElem? he
                  have hTK := spL_take (f := Ru.e_) (m := m) (p := 7) he
                  have hrow := (HRrules.out.row k _ he).keep HOr.out
                  have hcp := copy7 ((Ru.Li.keep _ _ _ (HRrules.out.sub e hmem) HOr.out).1) (HMrules.out e hmem)
                  clear he hmem
                  obtain ⟨yeo, yen, yes, yeu, yeA, yec, yel, ysA, ysc, ysl⟩ := e
                  obtain ⟨b, o, rfl, hb, c0x, c1x, c2x, c3x, c4x, c5x⟩ := Ru.at_cells hrow
                  have HTK := Lib.hid hTK
                  have HC := Lib.hid (show ∀ W, Only [] wr W → Calls Tryd.prog 33 #[.agg #[.int .i64 yeo, .int .i64 yen, .string yes, .string yeu, .slice yeA yel.length yec]] W fun r w' => ∃ zo zn zs zu zA zc zl, r = .returned (.agg #[.int .i64 zo, .int .i64 zn, .string zs, .string zu, .slice zA (List.length zl) zc]) ∧ Cp W.heap.size w' (Ex.mk yeo yen yes yeu yeA yec yel) (.mk zo zn zs zu zA zc zl) ∧ Only [] W w' from hcp)
                  have hki : (0 : Int) ≤ (k : Int) := by omega
                  have hki2 : (k : Int) < (xrulesl.length : Int) := by omega
                  have HO2 := Lib.hid (show Only [] wr (wr.alloc (.cells #[.int .i64 yeo, .int .i64 yen, .string yes, .string yeu, .slice yeA yel.length yec, .slice ysA ysl.length ysc] 77)) from (Only.refl _ _).alloc _)
                  clear hrow hcp hTK
                  go_wp2_with (fail)
                  refine (HC.out _ HO2.out).mono ?_
                  rintro r w3 ⟨zo, zn, zs, zu, zA, zc, zl, rfl, hcp, o3⟩
                  have HCP := Lib.hid hcp
                  have HO3 := Lib.hid (HO2.out.trans o3 (by simp))
                  clear hcp o3 hb c0x c1x c2x c3x c4x c5x
                  have hz := Blk.new w3 87 #[.int .i64 m, .int .i64 7, .int .i64 k, .int .i64 0, .int .i64 zo, .int .i64 zn, .string zs, .string zu, .slice zA zl.length zc]
                  have o4 : Only [] w3 (w3.alloc (.cells #[.int .i64 m, .int .i64 7, .int .i64 k, .int .i64 0, .int .i64 zo, .int .i64 zn, .string zs, .string zu, .slice zA zl.length zc] 87)) := (Only.refl _ _).alloc _
                  obtain ⟨A9, c9, w9, hrun, hS9, hG9⟩ := HX'.out.app (z := w3.heap.size) (m := m) (p := 7) (i := k) (e := Ex.mk yeo yen yes yeu yeA yec yel) (e' := .mk zo zn zs zu zA zc zl) (HO3.out.trans o4 (by simp)) (Nat.le_trans HBW1.out HG'.out.only.size) (HCP.out.keep o4) HO2.out.size (fun j u hj => by rw [hz.cell]; simpa [Sp.cs] using hj) (by have h1 := HX'.out.len; have h2 := HTOT.out; (try simp only [List.length_append, spL_len, ifL_len, List.length_take] at h1 h2); omega)
                  have HX9 := Lib.hid (hS9.to (show _ = L ++ spL Se.e_ m 0 xvarsl ++ spL id m 1 xtal ++ spL Em.e_ m 2 xemitsl ++ ifL m xemitsl ++ spL Se.e_ m 4 xintl ++ spL Se.e_ m 5 xextl ++ spL Se.e_ m 6 xownl ++ spL Ru.e_ m 7 (xrulesl.take (k + 1)) from by rw [HTK.out, ← List.append_assoc]; rfl))
                  have HG9 := Lib.hid (HG'.out.trans hG9)
                  clear hz o4 hS9 hG9
                  go_wp2_with (at_builtin; refine wpList_append_run hrun rfl _ _ rfl rfl rfl rfl ?_)
                  go_roundw
                  case rel => exact ⟨k + 1, j + 1, A9, c9, rfl, by go_num, by omega, HX9, HG9⟩
                  case measure => simp [intOf] <;> omega
                · obtain rfl : k = xrulesl.length := by omega
                  have iz : ¬ (xrulesl.length : Int) < (xrulesl.length : Int) := by omega
                  have HS8 := Lib.hid (HX'.out.to (show _ = L ++ spL Se.e_ m 0 xvarsl ++ spL id m 1 xtal ++ spL Em.e_ m 2 xemitsl ++ ifL m xemitsl ++ spL Se.e_ m 4 xintl ++ spL Se.e_ m 5 xextl ++ spL Se.e_ m 6 xownl ++ spL Ru.e_ m 7 xrulesl from by rw [List.take_length]))
                  have HG8 := HG'
                  obtain ⟨w8, hwq⟩ : ∃ wq : World, wq = wr := ⟨_, rfl⟩
                  subst hwq
                  obtain ⟨A8, hAq⟩ : ∃ q, q = A' := ⟨_, rfl⟩
                  subst hAq
                  obtain ⟨c8, hAq⟩ : ∃ q, q = c' := ⟨_, rfl⟩
                  subst hAq
                  obtain ⟨j8, hAq⟩ : ∃ q, q = j := ⟨_, rfl⟩
                  subst hAq
                  clear HX' HG' HOr hlt hk
                  go_wp2_with (fail)
                  go_ret
                  unfold SpOut
                  exact ⟨A8, c8, j8, rfl, HS8.out.to HEQ.out.symm, HGB.out.trans HG8.out⟩
end Go.Proofs.YtfnacnlaphpflaaDoor
