/- Walk. -/
import Derived.Test.YtfnacnlaphpflaaDoorCopy
import Derived.Test.YtfnacnlaphpflaaDoorRangeP
namespace Go.Proofs.YtfnacnlaphpflaaDoor
open Go.RowKit Go.Kx
attribute [local go_sem] Oper.semAt_some
set_option maxRecDepth 100000

/-- an expression, and all within it -/
def Tr.all : Tr → List Tr
  | .mk op n nm sb args => .mk op n nm sb args :: (args.map Tr.all).flatten
theorem all_mk (op n : Int) (nm sb : ByteArray) (A : Option Addr) (cap : Nat) (args : List Ex) : (Ex.mk op n nm sb A cap args).tr.all = (Ex.mk op n nm sb A cap args).tr :: (args.map fun a => a.tr.all).flatten := by
  rw [Ex.tr, Tr.all, List.map_map]
  rfl
def upAll (args : List Ex) (k : Nat) : List Tr := ((args.take k).map fun a => a.tr.all).flatten
theorem upAll_zero (args : List Ex) : upAll args 0 = [] := by simp [upAll]
theorem upAll_succ {args : List Ex} {k : Nat} {e : Ex} (h : args[k]? = some e) : upAll args (k + 1) = upAll args k ++ e.tr.all := by
  unfold upAll
  rw [List.take_add_one, h, List.map_append, List.flatten_append]
  simp
theorem upAll_all (args : List Ex) : upAll args args.length = (args.map fun a => a.tr.all).flatten := by unfold upAll; rw [List.take_length]
theorem upAll_at {args : List Ex} {k : Nat} {e : Ex} (h : args[k]? = some e) {i : Nat} {t : Tr} (hi : e.tr.all[i]? = some t) : (args.map fun a => a.tr.all).flatten[(upAll args k).length + i]? = some t := by
  have hp : upAll args (k + 1) <+: (args.map fun a => a.tr.all).flatten := by
    unfold upAll
    refine ⟨((args.drop (k + 1)).map fun a => a.tr.all).flatten, ?_⟩
    rw [← List.flatten_append, ← List.map_append, List.take_append_drop]
  obtain ⟨r, hr⟩ := hp
  rw [← hr, upAll_succ h]
  have hl := (List.getElem?_eq_some_iff.1 hi).1
  rw [List.getElem?_append_left (by simp; omega), List.getElem?_append_right (by omega)]
  rw [show (upAll args k).length + i - (upAll args k).length = i by omega]
  exact hi
theorem upAll_pre (args : List Ex) (k : Nat) : upAll args k <+: (args.map fun a => a.tr.all).flatten := by
  unfold upAll
  refine ⟨((args.drop k).map fun a => a.tr.all).flatten, ?_⟩
  rw [← List.flatten_append, ← List.map_append, List.take_append_drop]
/-- the k-th value -/
def WR (T : List Tr) (k : Nat) (v : Array Value) (W : World) : Prop := ∃ e : Ex, v = #[e.val] ∧ T[k]? = some e.tr ∧ Lies W e
def YW (P : Program) (T : List Tr) (l : Nat) (J : Nat → List Nat → World → Prop) (Jx : World → Prop) : Prop :=
  ∀ k S W1 v, k < T.length → WR T k v W1 → J k S W1 → YieldAt Fence.wide 8 P l v W1 fun e W' =>
      (e = .returned (.bool true) ∧ (∃ S', J (k + 1) S' W' ∧ ∀ b ∈ S', (b ∈ S ∨ W1.heap.size ≤ b) ∧ b < W'.heap.size) ∧ Only (l :: S) W1 W') ∨ (e = .returned (.bool false) ∧ Jx W')
set_option maxHeartbeats 4000000 in
theorem walk35 {T : List Tr} {l : Nat} {J : Nat → List Nat → World → Prop} {Jx : World → Prop} (hJ : ∀ k S W1 W2, J k S W1 → Only [] W1 W2 → J k S W2) (hY : YW Tryd.prog T l J Jx) :
    ∀ (e : Ex) (off : Nat) (W : World) (S : List Nat), Lies W e → e.sm = true → (∀ b ∈ e.blks, b < l ∧ b ∉ S) → l < W.heap.size → (∀ b ∈ S, b < W.heap.size) → (∀ i t, e.tr.all[i]? = some t → T[off + i]? = some t) → J off S W →
    Calls Tryd.prog 35 #[e.val, .func (.yield l) #[] #[]] W fun r W' =>
      (r = .returned (.bool true) ∧ (∃ S', J (off + e.tr.all.length) S' W' ∧ ∀ b ∈ S', (b ∈ S ∨ W.heap.size ≤ b) ∧ b < W'.heap.size) ∧ Only (l :: S) W W') ∨ (r = .returned (.bool false) ∧ Jx W') := by
  refine Ex.ind (fun e ih => ?_)
  intro off W S hL hs hB hl hS hT h0
  have HJ := Lib.hid hJ
  have HY := Lib.hid hY
  have hcp : ∀ w', Only [] W w' → Calls Tryd.prog 33 #[e.val] w' fun r w'' => ∃ yop yn ynm ysb yA ycap yargs, r = .returned (.agg #[.int .i64 yop, .int .i64 yn, .string ynm, .string ysb, .slice yA (List.length yargs) ycap]) ∧ Cp w'.heap.size w'' e (.mk yop yn ynm ysb yA ycap yargs) ∧ Only [] w' w'' := fun w' o => (copy_any e w' (hL.keep o) hs).mono (by rintro r w'' ⟨⟨yop, yn, ynm, ysb, yA, ycap, yargs⟩, rfl, h1, h2⟩; exact ⟨yop, yn, ynm, ysb, yA, ycap, yargs, rfl, h1, h2⟩)
  have hTe : T[off]? = some e.tr := by
    have : e.tr.all[0]? = some e.tr := by cases e; rw [all_mk]; rfl
    have := hT 0 _ this
    simpa using this
  obtain ⟨op, n, nm, sb, A, cap, args⟩ := e
  obtain ⟨-, -, -, hrow, hsub⟩ := hL.inv
  obtain ⟨hlen, hsm⟩ := sm_mk hs
  have hall := all_mk op n nm sb A cap args
  have hbx := Blk.new W 24 #[.int .i64 op, .int .i64 n, .string nm, .string sb, .slice A args.length cap]
  have o0 : Only [] W (W.alloc (.cells #[.int .i64 op, .int .i64 n, .string nm, .string sb, .slice A args.length cap] 24)) := (Only.refl _ _).alloc _
  obtain ⟨b0, b1, b2, b3, b4, bl⟩ := hbx.facts5
  have HR := Lib.hid hrow
  have HSUB := Lib.hid hsub
  have HSM := Lib.hid hsm
  have HI := Lib.hid ih
  have HB := Lib.hid hB
  have HS := Lib.hid hS
  have HT := Lib.hid hT
  have HTE := Lib.hid hTe
  have H0 := Lib.hid h0
  have HC := Lib.hid hcp
  have HA := Lib.hid hall
  have HBX := Lib.hid hbx
  have HO := Lib.hid o0
  clear hJ hY hL hs hrow hsub hsm ih hB hS hT hTe h0 hcp hall hbx o0
  show Calls Tryd.prog 35 #[.agg #[.int .i64 op, .int .i64 n, .string nm, .string sb, .slice A args.length cap], .func (.yield l) #[] #[]] W _
  go_enter Tryd.func35, Tryd.ntmps35
  refine (wpIn_wide (n := 9)).1 ?_
  gi_wp2_with (fail)
  refine ⟨trivial, callsIn_wide.2 ((HC.out _ HO.out).mono ?_)⟩
  rintro r w3 ⟨yop, yn, ynm, ysb, yA, ycap, yargs, rfl, hcp, o3⟩
  have HO3 := Lib.hid (HO.out.trans o3 (by simp))
  have BX3 := Lib.hid (o3.blk HBX.out (by simp))
  obtain ⟨fn, tmps, assign, body, hy, hR⟩ := HY.out off S w3 #[.agg #[.int .i64 yop, .int .i64 yn, .string ynm, .string ysb, .slice yA yargs.length ycap]] (List.getElem?_eq_some_iff.1 HTE.out).1 ⟨.mk yop yn ynm ysb yA ycap yargs, rfl, by rw [hcp.tr]; exact HTE.out, hcp.lies⟩ (HJ.out _ _ _ _ H0.out HO3.out)
  have HRR := Lib.hid hR
  clear hR hcp o3 b0 b1 b2 b3 b4 bl
  gi_wp2_with (fail)
  refine HRR.out.mono ?_
  rintro r w4 (⟨rfl, ⟨S4, hJ4, hS4⟩, ho4⟩ | ⟨rfl, hJx⟩)
  · have hnb : W.heap.size ∉ l :: S := fun h => by
      rcases List.mem_cons.1 h with h | h
      · omega
      · have := HS.out _ h; omega
    obtain ⟨b0, b1, b2, b3, b4, bl⟩ := (ho4.blk BX3.out hnb).facts5
    have HO4 := Lib.hid ((HO3.out.mono (fun _ h => by simp at h)).trans ho4 (fun _ h => .inl h))
    have HJ4 := Lib.hid hJ4
    have HS4 := Lib.hid (show ∀ b ∈ S4, (b ∈ S ∨ W.heap.size ≤ b) ∧ b < w4.heap.size from fun b hb => ⟨(hS4 b hb).1.imp id (fun h => Nat.le_trans HO3.out.size h), (hS4 b hb).2⟩)
    clear hJ4 hS4 ho4 HRR BX3
    gi_wp2_with (fail)
    gi_loopw [15] (fun i wr => ∃ (k : Nat) (S' : List Nat), i = .int .i64 k ∧ k ≤ args.length ∧ J (off + 1 + (upAll args k).length) S' wr ∧ (∀ b ∈ S', (b ∈ S ∨ W.heap.size ≤ b) ∧ b < wr.heap.size) ∧ Only (l :: S) W wr) (fun i _ => args.length - (intOf i).toNat)
    case atStart => exact ⟨0, S4, rfl, Nat.zero_le _, HJ4.out, HS4.out, HO4.out⟩
    case round =>
      clear HJ4 HS4 HO4 b0 b1 b2 b3 b4 bl
      obtain ⟨k, S', rfl, hk, hJr, hSr, hO⟩ := hrel
      have HOr := Lib.hid hO
      have HJR := Lib.hid hJr
      have HSR := Lib.hid hSr
      clear hO hJr hSr
      by_cases hlt : k < args.length
      · obtain ⟨e, he⟩ : ∃ e, args[k]? = some e := ⟨_, List.getElem?_eq_getElem hlt⟩
        have hmem : e ∈ args := List.mem_of_getElem? he
        have HUP := Lib.hid (show (upAll args (k + 1)).length = (upAll args k).length + e.tr.all.length from by rw [upAll_succ he, List.length_append])
        have HTK := Lib.hid (show ∀ i t, e.tr.all[i]? = some t → T[off + 1 + (upAll args k).length + i]? = some t from fun i t hi => by
          have := HT.out (1 + ((upAll args k).length + i)) t (by
            rw [HA.out, Nat.add_comm 1, List.getElem?_cons_succ]
            exact upAll_at he hi)
          rw [← this]
          congr 1
          omega)
        have hoff : ∀ b ∈ e.blks, b < l ∧ b ∉ S := fun b hb => HB.out b (blks_sub hmem hb)
        have HBK := Lib.hid (show ∀ b ∈ e.blks, b < l ∧ b ∉ S' from fun b hb => ⟨(hoff b hb).1, fun h => by
          rcases (HSR.out b h).1 with h | h
          · exact (hoff b hb).2 h
          · have := (hoff b hb).1; omega⟩)
        have HLe := Lib.hid ((HSUB.out e hmem).only HOr.out (fun b hb h => by
          rcases List.mem_cons.1 h with h | h
          · have := (hoff b hb).1; omega
          · exact (hoff b hb).2 h))
        have hcall := HI.out e (by simpa [Ex.args] using hmem)
        have hse := HSM.out e hmem
        have hra := (HR.out k _ he).only HOr.out (fun p hp h => by
          have hb := HB.out p.block (blks_A hp)
          rcases List.mem_cons.1 h with h | h
          · omega
          · exact hb.2 h)
        obtain ⟨xop, xn, xnm, xsb, xA, xcap, xargs⟩ := e
        obtain ⟨b, o, rfl, hb, c0, c1, c2, c3, c4⟩ := hra.cells
        have oA : Only [] wr (wr.alloc (.cells #[.int .i64 xop, .int .i64 xn, .string xnm, .string xsb, .slice xA xargs.length xcap] 24)) := (Only.refl _ _).alloc _
        have HCA := Lib.hid (show Calls Tryd.prog 35 #[.agg #[.int .i64 xop, .int .i64 xn, .string xnm, .string xsb, .slice xA xargs.length xcap], .func (.yield l) #[] #[]] (wr.alloc (.cells #[.int .i64 xop, .int .i64 xn, .string xnm, .string xsb, .slice xA xargs.length xcap] 24)) fun r W' =>
            (r = .returned (.bool true) ∧ (∃ S2, J (off + 1 + (upAll args k).length + (Ex.mk xop xn xnm xsb xA xcap xargs).tr.all.length) S2 W' ∧ ∀ b ∈ S2, (b ∈ S' ∨ (wr.alloc (.cells #[.int .i64 xop, .int .i64 xn, .string xnm, .string xsb, .slice xA xargs.length xcap] 24)).heap.size ≤ b) ∧ b < W'.heap.size) ∧ Only (l :: S') (wr.alloc (.cells #[.int .i64 xop, .int .i64 xn, .string xnm, .string xsb, .slice xA xargs.length xcap] 24)) W') ∨ (r = .returned (.bool false) ∧ Jx W') from
          hcall _ _ S' (HLe.out.keep oA) hse HBK.out (by have := HOr.out.size; have := oA.size; omega) (fun b hb => by have := (HSR.out b hb).2; have := oA.size; omega) HTK.out (HJ.out _ _ _ _ HJR.out oA))
        have HOA := Lib.hid oA
        have HWR := Lib.hid HOr.out.size
        clear he hmem hcall hse hra oA hoff
        gi_wp2_with (fail)
        refine ⟨trivial, callsIn_wide.2 (HCA.out.mono ?_)⟩
        rintro r w5 (⟨rfl, ⟨S2, hJ2, hS2⟩, ho5⟩ | ⟨rfl, hJx⟩)
        · have HJ2 := Lib.hid hJ2
          have HS2 := Lib.hid (show ∀ b ∈ S2, (b ∈ S ∨ W.heap.size ≤ b) ∧ b < w5.heap.size from fun b hb => ⟨by
            rcases (hS2 b hb).1 with h | h
            · exact (HSR.out b h).1
            · right; have := HOA.out.size; have := HWR.out; omega, (hS2 b hb).2⟩)
          have HO5 := Lib.hid (show Only (l :: S) W w5 from (HOr.out.trans (HOA.out.mono (fun _ h => by simp at h)) (fun _ h => .inl h)).trans ho5 (fun b hb => by
            rcases List.mem_cons.1 hb with h | h
            · exact .inl (by simp [h])
            · exact (HSR.out b h).1.imp (fun h => List.mem_cons_of_mem _ h) id))
          clear hJ2 hS2 ho5 c0 c1 c2 c3 c4 HCA
          gi_wp2_with (fail)
          go_roundw
          case rel => exact ⟨k + 1, S2, by go_num, by omega, by rw [HUP.out, ← Nat.add_assoc]; exact HJ2.out, HS2.out, HO5.out⟩
          case measure => simp [intOf]; omega
        · have HX := Lib.hid hJx
          clear hJx c0 c1 c2 c3 c4 HCA
          gi_wp2_with (fail)
          refine bodyPost_ret (results_tmp rfl _ _ _) rfl ?_
          exact .inr ⟨rfl, HX.out⟩
      · obtain rfl : k = args.length := by omega
        gi_wp2_with (fail)
        refine bodyPost_ret (results_tmp rfl _ _ _) rfl ?_
        refine .inl ⟨rfl, ⟨S', ?_, HSR.out⟩, HOr.out⟩
        rw [HA.out, List.length_cons, ← upAll_all, Nat.add_comm (upAll args args.length).length 1, ← Nat.add_assoc]
        exact HJR.out
  · have HX := Lib.hid hJx
    clear hJx HRR BX3
    gi_wp2_with (fail)
    refine bodyPost_ret (results_tmp rfl _ _ _) rfl ?_
    exact .inr ⟨rfl, HX.out⟩
end Go.Proofs.YtfnacnlaphpflaaDoor
