/- Exprs, the program's: the closure over the row. -/
import Derived.Test.YtfnacnlaphpflaaDoorMsp
namespace Go.Proofs.YtfnacnlaphpflaaDoor
open Go.RowKit Go.Kx
set_option maxRecDepth 100000
/-- what Exprs answers -/
def ExOut (w : World) (us : List Md) (r : Ending) (w' : World) : Prop := ∃ cb A' c' j, r = .returned (.func (.func 52) #[] #[.pointer (some ⟨cb, 0, none⟩)]) ∧ Blk w' cb 83 #[.slice A' j c'] ∧ w.heap.size ≤ cb ∧ cb < w.heap.size + 2 ∧ SpSt (w.heap.size + 2) w' A' c' j (allL us) ∧ Only [] w w'
set_option maxHeartbeats 8000000 in
theorem exprs_any {A : Option Addr} {c : Nat} {us : List Md} {rt : ByteArray} {w : World} (hA : RowX Md.cs 14 Md.Li w A us) (hs : smallP us) : Calls Tryd.prog 30 #[.agg #[.slice A us.length c, .string rt]] w (ExOut w us) := by
  have hlen := hA.len
  have HA := Lib.hid hA
  have HSM := Lib.hid hs
  have hX := Blk.new w 39 #[.slice A us.length c, .string rt]
  have hC := Blk.new (w.alloc (.cells #[.slice A us.length c, .string rt] 39)) 83 #[.slice none 0 0]
  simp only [World.size_alloc] at hC
  have HX := Lib.hid hX
  have HC := Lib.hid hC
  have HO := Lib.hid (show Only [] w ((w.alloc (.cells #[.slice A us.length c, .string rt] 39)).alloc (.cells #[.slice none 0 0] 83)) from ((Only.refl [] w).alloc _).alloc _)
  have HSZ := Lib.hid (show w.heap.size + 2 ≤ ((w.alloc (.cells #[.slice A us.length c, .string rt] 39)).alloc (.cells #[.slice none 0 0] 83)).heap.size from by simp)
  clear hA hs hC
  obtain ⟨bx0, bx1, bxl⟩ := hX.facts2
  clear hX
  go_enter Tryd.func30, Tryd.ntmps30
  go_wp2_with (fail)
  obtain ⟨wB, hwB⟩ : ∃ W : World, (w.alloc (.cells #[.slice A us.length c, .string rt] 39)).alloc (.cells #[.slice none 0 0] 83) = W := ⟨_, rfl⟩
  rw [hwB] at HC HO HSZ ⊢
  clear hwB bx0 bx1 bxl
  go_loopw [9] (fun i wr => ∃ (k j : Nat) (A' : Option Addr) (c' : Nat), i = .int .i64 k ∧ k ≤ us.length ∧ Hid (Blk wr (w.heap.size + 1) 83 #[.slice A' j c']) ∧ Hid (SpSt (w.heap.size + 2) wr A' c' j (allL (us.take k))) ∧ Hid (Only [] w wr) ∧ Hid (w.heap.size + 2 ≤ wr.heap.size)) (fun i _ => us.length - (intOf i).toNat)
  case atStart => exact ⟨0, 0, none, 0, rfl, Nat.zero_le _, HC, Lib.hid ((SpSt.nil _ _).to (by simp [allL])), HO, HSZ⟩
  case round =>
    obtain ⟨k, j, A', c', rfl, hk, HCr, HSr, HOr, HZr⟩ := hrel
    by_cases hlt : k < us.length
    · obtain ⟨e, he⟩ : ∃ e, us[k]? = some e := ⟨_, List.getElem?_eq_getElem hlt⟩
      have hmem : e ∈ us := List.mem_of_getElem? he
      have HTK := Lib.hid (allL_take he)
      have HLE := Lib.hid (allL_le he)
      have hrow := (HA.out.row k _ he).keep HOr.out
      have HLI := Lib.hid (HA.out.sub e hmem)
      have HSE := Lib.hid (show ∀ t ∈ e.es, t.sm = true from fun t ht => HSM.out.2 t (List.mem_flatMap.2 ⟨e, hmem, ht⟩))
      clear he hmem
      obtain ⟨xn, xcp, xinsA, xinsc, xinsl, xoutsA, xoutsc, xoutsl, xvarsA, xvarsc, xvarsl, xtaA, xtac, xtal, xemitsA, xemitsc, xemitsl, xintA, xintc, xintl, xextA, xextc, xextl, xcon, xownA, xownc, xownl, xpartsA, xpartsc, xpartsl, xlinksA, xlinksc, xlinksl, xrulesA, xrulesc, xrulesl⟩ := e
      obtain ⟨b, o, rfl, hb, c0x, c1x, c2x, c3x, c4x, c5x, c6x, c7x, c8x, c9x, c10x, c11x, c12x, c13x⟩ := Md.at_cells hrow
      have hki : (0 : Int) ≤ (k : Int) := by omega
      have hki2 : (k : Int) < (us.length : Int) := by omega
      have HO2 := Lib.hid (show Only [] wr (wr.alloc (.cells #[.string xn, .bool xcp, .slice xinsA xinsl.length xinsc, .slice xoutsA xoutsl.length xoutsc, .slice xvarsA xvarsl.length xvarsc, .slice xtaA xtal.length xtac, .slice xemitsA xemitsl.length xemitsc, .slice xintA xintl.length xintc, .slice xextA xextl.length xextc, .int .i64 xcon, .slice xownA xownl.length xownc, .slice xpartsA xpartsl.length xpartsc, .slice xlinksA xlinksl.length xlinksc, .slice xrulesA xrulesl.length xrulesc] 70)) from (Only.refl _ _).alloc _)
      obtain ⟨d0, dl⟩ := HCr.out.facts1
      clear hrow
      go_wp2_with (fail)
      refine (modelspots_any (x := .mk xn xcp xinsA xinsc xinsl xoutsA xoutsc xoutsl xvarsA xvarsc xvarsl xtaA xtac xtal xemitsA xemitsc xemitsl xintA xintc xintl xextA xextc xextl xcon xownA xownc xownl xpartsA xpartsc xpartsl xlinksA xlinksc xlinksl xrulesA xrulesc xrulesl) (W0 := w) (B := w.heap.size + 2) (Nat.le_add_right _ _) (Nat.le_trans HZr.out HO2.out.size) (HOr.out.trans HO2.out (by simp)) (HSr.out.keep HO2.out) HLI.out HSE.out (by have h1 := HSr.out.len; have h2 := HLE.out; have h3 := HSM.out.1; rw [mdL_len, allL_len us] at h2; omega)).mono ?_
      rintro r w3 ⟨A2, c2, j2, rfl, hs, hg⟩
      have h3 := hg.blk (HO2.out.blk HCr.out (by simp)) (fun p hp => by have := (HSr.out.low p hp).1; omega)
      have ho3 := hg.base (HOr.out.trans HO2.out (by simp)) (fun p hp => Nat.le_trans (Nat.le_add_right _ _) (HSr.out.low p hp).1)
      have o4 : Only [w.heap.size + 1] w3 (w3.setCell ⟨w.heap.size + 1, 0, none⟩ (.slice A2 j2 c2)) := (Only.refl [w.heap.size + 1] w3).setCell (p := ⟨w.heap.size + 1, 0, none⟩) (.inl (by simp)) _
      have h4 := h3.set_ 0 (.slice A2 j2 c2)
      have HS4 := Lib.hid ((hs.only o4 (by simp)).to HTK.out.symm)
      have HC4 := Lib.hid (show Blk (w3.setCell ⟨w.heap.size + 1, 0, none⟩ (.slice A2 j2 c2)) (w.heap.size + 1) 83 #[.slice A2 j2 c2] from h4)
      have HO4 := Lib.hid (ho3.trans o4 (by simp))
      have HZ4 := Lib.hid (Nat.le_trans (Nat.le_trans (Nat.le_trans HZr.out HO2.out.size) hg.only.size) o4.size)
      obtain ⟨e0, el⟩ := h3.facts1
      have ef := h3.frozen 0
      clear hs hg h3 ho3 o4 h4 hb d0 dl c0x c1x c2x c3x c4x c5x c6x c7x c8x c9x c10x c11x c12x c13x
      go_wp2_with (fail)
      go_roundw
      case rel => exact ⟨k + 1, j2, A2, c2, by go_num, by omega, HC4, HS4, HO4, HZ4⟩
      case measure => simp [intOf] <;> omega
    · obtain rfl : k = us.length := by omega
      have iz : ¬ (us.length : Int) < (us.length : Int) := by omega
      go_wp2_with (fail)
      go_ret
      unfold ExOut
      exact ⟨w.heap.size + 1, A', c', j, rfl, HCr.out, Nat.le_add_right _ _, by omega, HSr.out.to (by rw [List.take_length]), HOr.out⟩
end Go.Proofs.YtfnacnlaphpflaaDoor
