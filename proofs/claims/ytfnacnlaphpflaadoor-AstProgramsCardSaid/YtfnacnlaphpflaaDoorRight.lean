/- ExprRight, the program's. -/
import Derived.Test.YtfnacnlaphpflaaDoorNode
namespace Go.Proofs.YtfnacnlaphpflaaDoor
open Go.RowKit Go.Kx
set_option maxRecDepth 100000

def Tr.right : Tr → Bool
  | .mk op n nm sb args => nodeB op n nm sb args.length && (args.map Tr.right).all id
theorem right_mk (op n : Int) (nm sb : ByteArray) (A : Option Addr) (cap : Nat) (args : List Ex) : (Ex.mk op n nm sb A cap args).tr.right = (nodeB op n nm sb args.length && args.all fun a => a.tr.right) := by
  rw [Ex.tr, Tr.right, List.length_map, List.map_map, List.all_map]
  rfl
/-- a row of expressions, wherever it is asked -/
structure RowL (w : World) (A : Option Addr) (args : List Ex) : Prop where
  row : ∀ i e, args[i]? = some e → RowAt w A i e
  sub : ∀ e, e ∈ args → Lies w e
  len : args.length ≤ 9223372036854775807
theorem RowL.keep {w w' : World} {A : Option Addr} {args : List Ex} (h : RowL w A args) (o : Only [] w w') : RowL w' A args :=
  ⟨fun i e he => (h.row i e he).only o (by simp), fun e he => (h.sub e he).keep o, h.len⟩
theorem Lies.rowL {w : World} {op n : Int} {nm sb : ByteArray} {A : Option Addr} {cap : Nat} {args : List Ex} (h : Lies w (.mk op n nm sb A cap args)) : RowL w A args := by
  obtain ⟨-, -, h1, h2, h3⟩ := h.inv
  exact ⟨h2, h3, h1⟩
set_option maxHeartbeats 4000000 in
theorem allE (f : Nat) (p : Ex → Bool) (eg : ∀ args w, (callFunc f args).run Tryd.prog w = .ok (.enter f args) w) {A : Option Addr} {cap : Nat} {args : List Ex} {w : World} (hR : RowL w A args) (hW : WordsIs w)
    (hf : ∀ a ∈ args, ∀ w', Lies w' a → WordsIs w' → Calls Tryd.prog f #[a.val] w' fun r w'' => r = .returned (.bool (p a)) ∧ Only [] w' w'') :
    Calls Tryd.prog 55 #[.slice A args.length cap, .func (.func f) #[] #[]] w fun r w' => r = .returned (.bool (args.all p)) ∧ Only [] w w' := by
  have hlen := hR.len
  have HR := Lib.hid hR
  have HW := Lib.hid hW
  have HF := Lib.hid hf
  clear hR hW hf
  go_enter Tryd.func55, Tryd.ntmps55
  go_wp2_with (fail)
  go_loopw [9] (fun i wr => ∃ k : Nat, i = .int .i64 k ∧ k ≤ args.length ∧ (args.take k).all p = true ∧ Only [] w wr) (fun i _ => args.length - (intOf i).toNat)
  case atStart => exact ⟨0, rfl, Nat.zero_le _, by simp, Only.refl _ _⟩
  case round =>
    obtain ⟨k, rfl, hk, hp, hO⟩ := hrel
    have HOr := Lib.hid hO
    have HP := Lib.hid hp
    clear hO hp
    by_cases hlt : k < args.length
    · obtain ⟨e, he⟩ : ∃ e, args[k]? = some e := ⟨_, List.getElem?_eq_getElem hlt⟩
      have hmem : e ∈ args := List.mem_of_getElem? he
      have HLe := Lib.hid ((HR.out.sub e hmem).keep HOr.out)
      have hcall := HF.out e hmem
      have HTK := Lib.hid (show (args.take (k + 1)).all p = ((args.take k).all p && p e) from by rw [List.take_add_one, he, List.all_append]; simp)
      have HBAD := Lib.hid (show p e = false → args.all p = false from fun h => by rw [List.all_eq_false]; exact ⟨e, hmem, by rw [h]; decide⟩)
      obtain ⟨xop, xn, xnm, xsb, xA, xcap, xargs⟩ := e
      obtain ⟨b, o, rfl, hb, c0, c1, c2, c3, c4⟩ := ((HR.out.row k _ he).only HOr.out (by simp)).cells
      obtain ⟨pe, hpe⟩ : ∃ pe, p (.mk xop xn xnm xsb xA xcap xargs) = pe := ⟨_, rfl⟩
      rw [hpe] at hcall HTK HBAD
      have HCA := Lib.hid (show ∀ w', Lies w' (.mk xop xn xnm xsb xA xcap xargs) → WordsIs w' → Calls Tryd.prog f #[.agg #[.int .i64 xop, .int .i64 xn, .string xnm, .string xsb, .slice xA xargs.length xcap]] w' fun r w'' => r = .returned (.bool pe) ∧ Only [] w' w'' from hcall)
      have oA : Only [] wr (wr.alloc (.cells #[.int .i64 xop, .int .i64 xn, .string xnm, .string xsb, .slice xA xargs.length xcap] 24)) := (Only.refl _ _).alloc _
      have HOA := Lib.hid oA
      clear he hmem hcall hpe oA
      go_wp2_with (fail)
      refine (HCA.out _ (HLe.out.keep HOA.out) (HW.out.keep (HOr.out.trans HOA.out (by simp)))).mono ?_
      rintro r w3 ⟨rfl, o3⟩
      have HO3 := Lib.hid ((HOr.out.trans HOA.out (by simp)).trans o3 (by simp))
      clear o3 c0 c1 c2 c3 c4
      cases pe with
      | true =>
        go_wp2_with (fail)
        go_roundw
        case rel => exact ⟨k + 1, by go_num, by omega, by rw [HTK.out, HP.out]; rfl, HO3.out⟩
        case measure => simp [intOf]; omega
      | false =>
        go_wp2_with (fail)
        go_ret
        exact ⟨by rw [show args.all p = false from HBAD.out (by first | rfl | trivial)]; rfl, HO3.out⟩
    · obtain rfl : k = args.length := by omega
      go_wp2_with (fail)
      go_ret
      exact ⟨by have := HP.out; rw [List.take_length] at this; rw [this]; rfl, HOr.out⟩
theorem eg39 : ∀ args w, (callFunc 39 args).run Tryd.prog w = .ok (.enter 39 args) w := enters Tryd.func39 (by kernel_rfl) rfl
set_option maxHeartbeats 4000000 in
theorem nodes_any : ∀ (e : Ex) (w : World), Lies w e → WordsIs w →
    Calls Tryd.prog 39 #[e.val] w fun r w' => r = .returned (.bool e.tr.right) ∧ Only [] w w' := by
  refine Ex.ind (fun e ih => ?_)
  intro w hL hW
  obtain ⟨op, n, nm, sb, A, cap, args⟩ := e
  obtain ⟨-, ⟨h2, h3⟩, -⟩ := hL.inv
  have HRT := Lib.hid (right_mk op n nm sb A cap args)
  have hbx := Blk.new w 24 #[.int .i64 op, .int .i64 n, .string nm, .string sb, .slice A args.length cap]
  have o0 : Only [] w (w.alloc (.cells #[.int .i64 op, .int .i64 n, .string nm, .string sb, .slice A args.length cap] 24)) := (Only.refl _ _).alloc _
  obtain ⟨b0, b1, b2, b3, b4, bl⟩ := hbx.facts5
  have HB := Lib.hid hbx
  have HO := Lib.hid o0
  have HR := Lib.hid (hL.rowL.keep o0)
  have HW := Lib.hid (hW.keep o0)
  have HI := Lib.hid (show ∀ a ∈ args, ∀ w', Lies w' a → WordsIs w' → Calls Tryd.prog 39 #[a.val] w' fun r w'' => r = .returned (.bool a.tr.right) ∧ Only [] w' w'' from fun a ha w' h1 h2 => ih a (by simpa [Ex.args] using ha) w' h1 h2)
  clear hL hW ih hbx o0
  show Calls Tryd.prog 39 #[.agg #[.int .i64 op, .int .i64 n, .string nm, .string sb, .slice A args.length cap]] w _
  go_enter Tryd.func39, Tryd.ntmps39
  go_wp2_with (fail)
  refine (node_any op n nm sb A cap args _ HW.out h2 h3).mono ?_
  rintro r w3 ⟨rfl, o3⟩
  have HO3 := Lib.hid (HO.out.trans o3 (by simp))
  have HR3 := Lib.hid (HR.out.keep o3)
  have HW3 := Lib.hid (HW.out.keep o3)
  obtain ⟨c0, c1, c2, c3, c4, cl⟩ := (o3.blk HB.out (by simp)).facts5
  clear o3 b0 b1 b2 b3 b4 bl
  cases hn : nodeB op n nm sb args.length with
  | true =>
    have HN := Lib.hid hn
    clear hn
    go_wp2_with (fail)
    refine (allE 39 (fun a => a.tr.right) eg39 HR3.out HW3.out HI.out).mono ?_
    rintro r w4 ⟨rfl, o4⟩
    have HO4 := Lib.hid (HO3.out.trans o4 (by simp))
    clear o4
    go_wp2_with (fail)
    go_ret
    exact ⟨by rw [HRT.out, HN.out]; rfl, HO4.out⟩
  | false =>
    have HN := Lib.hid hn
    clear hn
    go_wp2_with (fail)
    go_ret
    exact ⟨by rw [HRT.out, HN.out]; rfl, HO3.out⟩
/-- right, and at most so deep -/
def Tr.ok (t : Tr) : Bool := decide (t.depth ≤ 20) && t.right
theorem pright_any {e : Ex} {w : World} (hL : Lies w e) (hW : WordsIs w) : Calls Tryd.prog 20 #[e.val] w fun r w' => r = .returned (.bool e.tr.ok) ∧ Only [] w w' := by
  have HE := Lib.hid (show ∀ b, decide (e.tr.depth ≤ 20) = b → e.tr.ok = (b && e.tr.right) from fun b h => by unfold Tr.ok; rw [h])
  have hN := fun w' (o : Only [] w w') => nest_any e w' (hL.keep o) 20 (by omega)
  have hR := fun w' (o : Only [] w w') => nodes_any e w' (hL.keep o) (hW.keep o)
  obtain ⟨d, hd⟩ : ∃ d, e.tr.depth = d := ⟨_, rfl⟩
  rw [hd] at hN HE
  obtain ⟨rt, hrt⟩ : ∃ rt, e.tr.right = rt := ⟨_, rfl⟩
  rw [hrt] at hR HE
  clear hd hrt
  obtain ⟨op, n, nm, sb, A, cap, args⟩ := e
  have hbx := Blk.new w 24 #[.int .i64 op, .int .i64 n, .string nm, .string sb, .slice A args.length cap]
  have o0 : Only [] w (w.alloc (.cells #[.int .i64 op, .int .i64 n, .string nm, .string sb, .slice A args.length cap] 24)) := (Only.refl _ _).alloc _
  obtain ⟨b0, b1, b2, b3, b4, bl⟩ := hbx.facts5
  have HB := Lib.hid hbx
  have HO := Lib.hid o0
  have HN := Lib.hid hN
  have HR := Lib.hid hR
  clear hL hW hbx o0 hN hR
  show Calls Tryd.prog 20 #[.agg #[.int .i64 op, .int .i64 n, .string nm, .string sb, .slice A args.length cap]] w _
  go_enter Tryd.func20, Tryd.ntmps20
  go_wp2_with (fail)
  refine (HN.out _ HO.out).mono ?_
  rintro r w3 ⟨rfl, o3⟩
  have HO3 := Lib.hid (HO.out.trans o3 (by simp))
  obtain ⟨c0, c1, c2, c3, c4, cl⟩ := (o3.blk HB.out (by simp)).facts5
  clear o3 b0 b1 b2 b3 b4 bl
  by_cases hdl : d ≤ 20
  · have e1 : min d (20 + 1) ≤ 20 := by omega
    have e2 : decide (((min d (20 + 1) : Nat) : Int) ≤ 20) = true := by simp; omega
    have HD := Lib.hid (decide_eq_true hdl)
    generalize min d (20 + 1) = m at e1 e2 ⊢
    have e3 : decide (m ≤ 20) = true := by simpa using e1
    clear hdl
    go_wp2_with (fail)
    refine (HR.out _ HO3.out).mono ?_
    rintro r w4 ⟨rfl, o4⟩
    have HO4 := Lib.hid (HO3.out.trans o4 (by simp))
    clear o4
    go_wp2_with (fail)
    go_ret
    exact ⟨by rw [HE.out _ HD.out]; rfl, HO4.out⟩
  · have e1 : ¬ min d (20 + 1) ≤ 20 := by omega
    have e2 : decide (((min d (20 + 1) : Nat) : Int) ≤ 20) = false := by simp; omega
    have HD := Lib.hid (decide_eq_false hdl)
    generalize min d (20 + 1) = m at e1 e2 ⊢
    have e3 : decide (m ≤ 20) = false := by simpa using e1
    clear hdl
    go_wp2_with (fail)
    go_ret
    exact ⟨by rw [HE.out _ HD.out]; rfl, HO3.out⟩
end Go.Proofs.YtfnacnlaphpflaaDoor
