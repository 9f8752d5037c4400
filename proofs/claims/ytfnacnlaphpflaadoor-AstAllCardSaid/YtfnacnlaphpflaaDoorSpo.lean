/- setSpots. -/
import Derived.Test.YtfnacnlaphpflaaDoorPSp
namespace Go.Proofs.YtfnacnlaphpflaaDoor
open Go.RowKit Go.Kx
set_option maxRecDepth 100000
/-- a copy, its parts named -/
theorem copy7 {e : Ex} {W0 : World} (hL : Lies W0 e) (hs : e.sm = true) : ∀ W, Only [] W0 W → Calls Tryd.prog 33 #[e.val] W fun r w' => ∃ yo yn ys yu yA yc yl, r = .returned (.agg #[.int .i64 yo, .int .i64 yn, .string ys, .string yu, .slice yA (List.length yl) yc]) ∧ Cp W.heap.size w' e (.mk yo yn ys yu yA yc yl) ∧ Only [] W w' :=
  fun W o => (copy_any e W (hL.keep o) hs).mono (by rintro r w'' ⟨⟨yop, yn, ynm, ysb, yA, ycap, yargs⟩, rfl, h1, h2⟩; exact ⟨yop, yn, ynm, ysb, yA, ycap, yargs, rfl, h1, h2⟩)
set_option maxHeartbeats 4000000 in
theorem setspots_any {B n m p sc c : Nat} {W0 w : World} {A SA : Option Addr} {L : List Sp} {sets : List Se} (hB : W0.heap.size ≤ B) (hBw : B ≤ w.heap.size) (hO : Only [] W0 w) (hS : SpSt B w A c n L)
    (hR : RowX Se.cs 6 Se.Li W0 SA sets) (hsm : ∀ s ∈ sets, s.e_.sm = true) (hl : n + sets.length ≤ 1048576) :
    Calls Tryd.prog 80 #[.slice A n c, .int .i64 m, .int .i64 p, .slice SA sets.length sc] w fun r w' => SpOut B w A (L ++ spL Se.e_ m p sets) r w' := by
  have hlen := hR.len
  have HB := Lib.hid hB
  have HBW := Lib.hid hBw
  have HO := Lib.hid hO
  have HR := Lib.hid hR
  have HSM := Lib.hid hsm
  have HL := Lib.hid hl
  have HLOW := Lib.hid hS.low
  have HS := Lib.hid (hS.to (show L = L ++ spL Se.e_ m p (sets.take 0) from by simp [spL]))
  clear hB hBw hO hR hsm hl hS
  go_enter Tryd.func80, Tryd.ntmps80
  go_wp2_with (fail)
  go_loopw [0, 13] (fun l i wr => ∃ (k : Nat) (A' : Option Addr) (c' : Nat), l = .slice A' (n + k) c' ∧ i = .int .i64 k ∧ k ≤ sets.length ∧ Hid (SpSt B wr A' c' (n + k) (L ++ spL Se.e_ m p (sets.take k))) ∧ Hid (GrowR w A wr A')) (fun _ i _ => sets.length - (intOf i).toNat)
  case atStart => exact ⟨0, A, c, rfl, rfl, Nat.zero_le _, HS, Lib.hid (GrowR.refl _ _)⟩
  case round =>
    obtain ⟨k, A', c', rfl, rfl, hk, HX, HG⟩ := hrel
    have HOr := Lib.hid (HG.out.base HO.out (fun p hp => Nat.le_trans HB.out (HLOW.out p hp).1))
    by_cases hlt : k < sets.length
    · obtain ⟨e, he⟩ : ∃ e, sets[k]? = some e := ⟨_, List.getElem?_eq_getElem hlt⟩
      have hmem : e ∈ sets := List.mem_of_getElem? he
      have hTK := spL_take (f := Se.e_) (m := m) (p := p) he
      have hrow := (HR.out.row k _ he).keep HOr.out
      have hcp := copy7 (Se.Li.keep _ _ _ (HR.out.sub e hmem) HOr.out).2 (HSM.out e hmem)
      clear he hmem
      obtain ⟨xn, xeo, xen, xes, xeu, xeA, xec, xel⟩ := e
      obtain ⟨b, o, rfl, hb, c0, c1, c2, c3, c4, c5⟩ := Se.at_cells hrow
      have HTK := Lib.hid hTK
      have HC := Lib.hid (show ∀ W, Only [] wr W → Calls Tryd.prog 33 #[.agg #[.int .i64 xeo, .int .i64 xen, .string xes, .string xeu, .slice xeA xel.length xec]] W fun r w' => ∃ yo yn ys yu yA yc yl, r = .returned (.agg #[.int .i64 yo, .int .i64 yn, .string ys, .string yu, .slice yA (List.length yl) yc]) ∧ Cp W.heap.size w' (Ex.mk xeo xen xes xeu xeA xec xel) (.mk yo yn ys yu yA yc yl) ∧ Only [] W w' from hcp)
      have hki : (0 : Int) ≤ (k : Int) := by omega
      have hki2 : (k : Int) < (sets.length : Int) := by omega
      have HO1 := Lib.hid (show Only [] wr (wr.alloc (.cells #[.string xn, .int .i64 xeo, .int .i64 xen, .string xes, .string xeu, .slice xeA xel.length xec] 97)) from (Only.refl _ _).alloc _)
      clear hrow hcp hTK
      go_wp2_with (fail)
      refine (HC.out _ HO1.out).mono ?_
      rintro r w3 ⟨yo, yn, ys, yu, yA, yc, yl, rfl, hcp, o3⟩
      have HCP := Lib.hid hcp
      have HO3 := Lib.hid (HO1.out.trans o3 (by simp))
      clear hcp o3 hb c0 c1 c2 c3 c4 c5
      have hz := Blk.new w3 87 #[.int .i64 m, .int .i64 p, .int .i64 k, .int .i64 0, .int .i64 yo, .int .i64 yn, .string ys, .string yu, .slice yA yl.length yc]
      have o4 : Only [] w3 (w3.alloc (.cells #[.int .i64 m, .int .i64 p, .int .i64 k, .int .i64 0, .int .i64 yo, .int .i64 yn, .string ys, .string yu, .slice yA yl.length yc] 87)) := (Only.refl _ _).alloc _
      obtain ⟨A2, c2, w5, hrun, hS5, hG5⟩ := HX.out.app (z := w3.heap.size) (m := m) (p := p) (i := k) (e := Ex.mk xeo xen xes xeu xeA xec xel) (e' := .mk yo yn ys yu yA yc yl) (HO3.out.trans o4 (by simp)) (Nat.le_trans HBW.out HG.out.only.size) (HCP.out.keep o4) HO1.out.size (fun j u hj => by rw [hz.cell]; simpa [Sp.cs] using hj) (by have := HL.out; omega)
      have HX5 := Lib.hid (show SpSt B w5 A2 c2 (n + (k + 1)) (L ++ spL Se.e_ m p (sets.take (k + 1))) from by rw [HTK.out, ← List.append_assoc, ← Nat.add_assoc]; exact hS5)
      have HG5 := Lib.hid (HG.out.trans hG5)
      clear hz o4 hS5 hG5
      go_wp2_with (at_builtin; refine wpList_append_run hrun rfl _ _ rfl rfl rfl rfl ?_)
      go_roundw
      case rel => exact ⟨k + 1, A2, c2, by rw [Nat.add_assoc], by go_num, by omega, HX5, HG5⟩
      case measure => simp [intOf] <;> omega
    · obtain rfl : k = sets.length := by omega
      have iz : ¬ (sets.length : Int) < (sets.length : Int) := by omega
      go_wp2_with (fail)
      go_ret
      unfold SpOut
      exact ⟨A', c', n + sets.length, rfl, HX.out.to (by rw [List.take_length]), HG.out⟩
end Go.Proofs.YtfnacnlaphpflaaDoor
