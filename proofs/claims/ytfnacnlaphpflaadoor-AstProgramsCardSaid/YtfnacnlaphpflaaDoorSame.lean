/- SameExpr, the program's. -/
import Derived.Test.YtfnacnlaphpflaaDoorExpr
namespace Go.Proofs.YtfnacnlaphpflaaDoor
open Go.RowKit Go.Kx
set_option maxRecDepth 100000

def alikeF {α : Type} : List (α → Bool) → List α → Bool
  | [], [] => true
  | f :: fs, a :: us => f a && alikeF fs us
  | _, _ => false
def Tr.same : Tr → Tr → Bool
  | .mk op n nm sb args => fun
    | .mk op2 n2 nm2 sb2 args2 => decide (op = op2) && decide (n = n2) && decide (nm.toList = nm2.toList) && decide (sb.toList = sb2.toList) && alikeF (args.map Tr.same) args2
theorem same_mk (op n op2 n2 : Int) (nm sb nm2 sb2 : ByteArray) (args args2 : List Tr) : (Tr.mk op n nm sb args).same (.mk op2 n2 nm2 sb2 args2) = (decide (op = op2) && decide (n = n2) && decide (nm.toList = nm2.toList) && decide (sb.toList = sb2.toList) && alikeF (args.map Tr.same) args2) := by
  rw [Tr.same]
theorem same_refl : ∀ t : Tr, t.same t = true := by
  refine Tr.ind (fun t ih => ?_)
  obtain ⟨op, n, nm, sb, args⟩ := t
  rw [same_mk]
  simp only [decide_true, Bool.true_and]
  have key : ∀ l : List Tr, (∀ a ∈ l, a.same a = true) → alikeF (l.map Tr.same) l = true := by
    intro l
    induction l with
    | nil => intro _; rfl
    | cons a l ihl => intro h; rw [List.map_cons]; show (a.same a && alikeF (l.map Tr.same) l) = true; rw [h a (by simp), ihl (fun b hb => h b (by simp [hb]))]; rfl
  exact key args (fun a ha => ih a ha)
/-- two rows alike, us far us p tells -/
def alikeP (p : Ex → Ex → Bool) : List Ex → List Ex → Bool
  | [], [] => true
  | a :: us, b :: vs => p a b && alikeP p us vs
  | _, _ => false
theorem alikeP_len {p : Ex → Ex → Bool} : ∀ {us vs : List Ex}, us.length ≠ vs.length → alikeP p us vs = false
  | [], [], h => absurd rfl h
  | [], _ :: _, _ => rfl
  | _ :: _, [], _ => rfl
  | a :: us, b :: vs, h => by
    show (p a b && alikeP p us vs) = false
    rw [alikeP_len (by simpa using h), Bool.and_false]
theorem alikeP_take {p : Ex → Ex → Bool} : ∀ {us vs : List Ex} {k : Nat} {a b : Ex}, us.length = vs.length → us[k]? = some a → vs[k]? = some b → alikeP p (us.take (k + 1)) (vs.take (k + 1)) = (alikeP p (us.take k) (vs.take k) && p a b)
  | [], [], _, _, _, _, h, _ => by simp at h
  | x :: us, y :: vs, 0, a, b, _, h1, h2 => by
    simp at h1 h2
    subst h1 h2
    simp [alikeP]
  | x :: us, y :: vs, k + 1, a, b, hl, h1, h2 => by
    have := alikeP_take (p := p) (us := us) (vs := vs) (k := k) (a := a) (b := b) (by simpa using hl) (by simpa using h1) (by simpa using h2)
    rw [List.take_succ_cons, List.take_succ_cons, List.take_succ_cons, List.take_succ_cons]
    show (p x y && alikeP p (us.take (k + 1)) (vs.take (k + 1))) = _
    rw [this]
    show _ = (p x y && alikeP p (us.take k) (vs.take k) && p a b)
    rw [Bool.and_assoc]
  | [], _ :: _, _, _, _, hl, _, _ => by simp at hl
  | _ :: _, [], _, _, _, hl, _, _ => by simp at hl
theorem alikeP_bad {p : Ex → Ex → Bool} : ∀ {us vs : List Ex} {k : Nat} {a b : Ex}, us[k]? = some a → vs[k]? = some b → p a b = false → alikeP p us vs = false
  | [], _, _, _, _, h, _, _ => by simp at h
  | _ :: _, [], _, _, _, _, h, _ => by simp at h
  | x :: us, y :: vs, 0, a, b, h1, h2, h => by
    simp at h1 h2
    subst h1 h2
    show (p x y && _) = false
    rw [h]; rfl
  | x :: us, y :: vs, k + 1, a, b, h1, h2, h => by
    show (p x y && alikeP p us vs) = false
    rw [alikeP_bad (by simpa using h1) (by simpa using h2) h, Bool.and_false]
theorem alike_map : ∀ (us vs : List Ex), alikeF ((us.map Ex.tr).map Tr.same) (vs.map Ex.tr) = alikeP (fun a b => a.tr.same b.tr) us vs
  | [], [] => rfl
  | [], _ :: _ => rfl
  | _ :: _, [] => rfl
  | a :: us, b :: vs => by
    simp only [List.map_cons]
    show (_ && alikeF ((us.map Ex.tr).map Tr.same) (vs.map Ex.tr)) = (_ && alikeP _ us vs)
    rw [alike_map us vs]
set_option maxHeartbeats 4000000 in
theorem alike40 (f : Nat) (p : Ex → Ex → Bool) (eg : ∀ args w, (callFunc f args).run Tryd.prog w = .ok (.enter f args) w) {A B : Option Addr} {ca cb : Nat} {us vs : List Ex} {w : World} (hA : RowL w A us) (hB : RowL w B vs)
    (hf : ∀ a ∈ us, ∀ b w', Lies w' a → Lies w' b → Calls Tryd.prog f #[a.val, b.val] w' fun r w'' => r = .returned (.bool (p a b)) ∧ Only [] w' w'') :
    Calls Tryd.prog 40 #[.slice A us.length ca, .slice B vs.length cb, .func (.func f) #[] #[]] w fun r w' => r = .returned (.bool (alikeP p us vs)) ∧ Only [] w w' := by
  have hlA := hA.len
  have hlB := hB.len
  have HA := Lib.hid hA
  have HB := Lib.hid hB
  have HF := Lib.hid hf
  clear hA hB hf
  by_cases hl : us.length = vs.length
  · have e1 : ((us.length : Int) != (vs.length : Int)) = false := by simp [hl]
    have HL := Lib.hid hl
    rw [hl] at hlA e1 ⊢
    go_enter Tryd.func40, Tryd.ntmps40
    go_wp2_with (fail)
    go_loopw [15] (fun i wr => ∃ k : Nat, i = .int .i64 k ∧ k ≤ vs.length ∧ alikeP p (us.take k) (vs.take k) = true ∧ Only [] w wr) (fun i _ => vs.length - (intOf i).toNat)
    case atStart => exact ⟨0, rfl, Nat.zero_le _, by simp [alikeP], Only.refl _ _⟩
    case round =>
      obtain ⟨k, rfl, hk, hp, hO⟩ := hrel
      have HOr := Lib.hid hO
      have HP := Lib.hid hp
      clear hO hp
      by_cases hlt : k < vs.length
      · obtain ⟨x, hx⟩ : ∃ e, us[k]? = some e := ⟨_, List.getElem?_eq_getElem (by have := HL.out; omega)⟩
        obtain ⟨y, hy⟩ : ∃ e, vs[k]? = some e := ⟨_, List.getElem?_eq_getElem hlt⟩
        have hmx : x ∈ us := List.mem_of_getElem? hx
        have HLx := Lib.hid ((HA.out.sub x hmx).keep HOr.out)
        have HLy := Lib.hid ((HB.out.sub y (List.mem_of_getElem? hy)).keep HOr.out)
        have hcall := HF.out x hmx y
        have HTK := Lib.hid (alikeP_take (p := p) HL.out hx hy)
        have HBAD := Lib.hid (alikeP_bad (p := p) hx hy)
        have hrx := (HA.out.row k _ hx).only HOr.out (by simp)
        have hry := (HB.out.row k _ hy).only HOr.out (by simp)
        obtain ⟨pe, hpe⟩ : ∃ pe, p x y = pe := ⟨_, rfl⟩
        rw [hpe] at hcall HTK HBAD
        obtain ⟨xop, xn, xnm, xsb, xA, xcap, xargs⟩ := x
        obtain ⟨yop, yn, ynm, ysb, yA, ycap, yargs⟩ := y
        obtain ⟨ba, oa, rfl, hba, c0, c1, c2, c3, c4⟩ := hrx.cells
        obtain ⟨bb, ob, rfl, hbb, d0, d1, d2, d3, d4⟩ := hry.cells
        have HCA := Lib.hid (show ∀ w', Only [] wr w' → Calls Tryd.prog f #[.agg #[.int .i64 xop, .int .i64 xn, .string xnm, .string xsb, .slice xA xargs.length xcap], .agg #[.int .i64 yop, .int .i64 yn, .string ynm, .string ysb, .slice yA yargs.length ycap]] w' fun r w'' => r = .returned (.bool pe) ∧ Only [] wr w'' ∧ (w''.cell? ⟨ba, oa + k * 5, none⟩ = some (.int .i64 xop) ∧ w''.cell? ⟨ba, oa + k * 5 + 1, none⟩ = some (.int .i64 xn) ∧ w''.cell? ⟨ba, oa + k * 5 + 2, none⟩ = some (.string xnm) ∧ w''.cell? ⟨ba, oa + k * 5 + 3, none⟩ = some (.string xsb) ∧ w''.cell? ⟨ba, oa + k * 5 + 4, none⟩ = some (.slice xA xargs.length xcap) ∧
              w''.cell? ⟨bb, ob + k * 5, none⟩ = some (.int .i64 yop) ∧ w''.cell? ⟨bb, ob + k * 5 + 1, none⟩ = some (.int .i64 yn) ∧ w''.cell? ⟨bb, ob + k * 5 + 2, none⟩ = some (.string ynm) ∧ w''.cell? ⟨bb, ob + k * 5 + 3, none⟩ = some (.string ysb) ∧ w''.cell? ⟨bb, ob + k * 5 + 4, none⟩ = some (.slice yA yargs.length ycap)) from fun w' o => (hcall w' (HLx.out.keep o) (HLy.out.keep o)).mono (by
                rintro r w'' ⟨rfl, o2⟩
                have o3 := o.trans o2 (by simp)
                have e : ∀ (q : Addr) v, q.block < wr.heap.size → wr.cell? q = some v → w''.cell? q = some v := fun q v hq hv => (o3.cell hq (by simp)).trans hv
                exact ⟨rfl, o3, e _ _ hba c0, e _ _ hba c1, e _ _ hba c2, e _ _ hba c3, e _ _ hba c4, e _ _ hbb d0, e _ _ hbb d1, e _ _ hbb d2, e _ _ hbb d3, e _ _ hbb d4⟩))
        have hki : (0 : Int) ≤ (k : Int) := by omega
        have hki2 : (k : Int) < (vs.length : Int) := by omega
        have e9 := Lib.hid eg
        clear hx hy hmx hcall hrx hry hpe
        go_wp2_with (fail)
        go_region_held3 (fun w' => w'.cell? ⟨ba, oa + k * 5, none⟩ = some (.int .i64 xop) ∧ w'.cell? ⟨ba, oa + k * 5 + 1, none⟩ = some (.int .i64 xn) ∧ w'.cell? ⟨ba, oa + k * 5 + 2, none⟩ = some (.string xnm) ∧ w'.cell? ⟨ba, oa + k * 5 + 3, none⟩ = some (.string xsb) ∧ w'.cell? ⟨ba, oa + k * 5 + 4, none⟩ = some (.slice xA xargs.length xcap) ∧
              w'.cell? ⟨bb, ob + k * 5, none⟩ = some (.int .i64 yop) ∧ w'.cell? ⟨bb, ob + k * 5 + 1, none⟩ = some (.int .i64 yn) ∧ w'.cell? ⟨bb, ob + k * 5 + 2, none⟩ = some (.string ynm) ∧ w'.cell? ⟨bb, ob + k * 5 + 3, none⟩ = some (.string ysb) ∧ w'.cell? ⟨bb, ob + k * 5 + 4, none⟩ = some (.slice yA yargs.length ycap)) (first | (go_keep; done) | (refine ⟨?_, ?_, ?_, ?_, ?_, ?_, ?_, ?_, ?_, ?_⟩ <;> (go_simp; done)))
          (first | (refine (HCA.out _ (by first | exact (Only.refl [] _).drew | exact (Only.refl [] _).drewN _)).mono ?_; rintro r w5 ⟨rfl, o5, g0, g1, g2, g3, g4, g5, g6, g7, g8, g9⟩))
        clear c0 c1 c2 c3 c4 d0 d1 d2 d3 d4 g0 g1 g2 g3 g4 g5 g6 g7 g8 g9
        have HO5 := Lib.hid (HOr.out.trans o5 (by simp))
        clear o5
        cases pe with
        | true =>
          go_wp2_with (fail)
          go_roundw
          case rel => exact ⟨k + 1, by go_num, by omega, by rw [HTK.out, HP.out]; rfl, HO5.out⟩
          case measure => simp [intOf]; omega
        | false =>
          go_wp2_with (fail)
          go_ret
          exact ⟨by rw [HBAD.out (by first | rfl | trivial)]; rfl, HO5.out⟩
      · obtain rfl : k = vs.length := by omega
        go_wp2_with (fail)
        go_ret
        exact ⟨by have := HP.out; rw [List.take_length, List.take_of_length_le (by have := HL.out; omega)] at this; rw [this]; rfl, HOr.out⟩
  · have e1 : ((us.length : Int) != (vs.length : Int)) = true := by simp; omega
    have HE := Lib.hid (alikeP_len (p := p) hl)
    clear hl
    go_enter Tryd.func40, Tryd.ntmps40
    go_wp2_with (fail)
    go_ret
    exact ⟨by rw [HE.out]; rfl, Only.refl _ _⟩
theorem eg21 : ∀ args w, (callFunc 21 args).run Tryd.prog w = .ok (.enter 21 args) w := enters Tryd.func21 (by kernel_rfl) rfl
set_option maxHeartbeats 4000000 in
theorem same_any : ∀ (a b : Ex) (w : World), Lies w a → Lies w b →
    Calls Tryd.prog 21 #[a.val, b.val] w fun r w' => r = .returned (.bool (a.tr.same b.tr)) ∧ Only [] w w' := by
  refine Ex.ind (fun a ih => ?_)
  intro b w hLa hLb
  obtain ⟨op, n, nm, sb, A, cap, args⟩ := a
  obtain ⟨op2, n2, nm2, sb2, A2, cap2, args2⟩ := b
  have HE := Lib.hid (show (Ex.mk op n nm sb A cap args).tr.same (Ex.mk op2 n2 nm2 sb2 A2 cap2 args2).tr = (decide (op = op2) && decide (n = n2) && decide (nm.toList = nm2.toList) && decide (sb.toList = sb2.toList) && alikeP (fun a b => a.tr.same b.tr) args args2) from by
    rw [Ex.tr, Ex.tr, same_mk, alike_map])
  have hbx := Blk.new w 24 #[.int .i64 op, .int .i64 n, .string nm, .string sb, .slice A args.length cap]
  have o0 : Only [] w (w.alloc (.cells #[.int .i64 op, .int .i64 n, .string nm, .string sb, .slice A args.length cap] 24)) := (Only.refl _ _).alloc _
  have hs1 : (w.alloc (.cells #[.int .i64 op, .int .i64 n, .string nm, .string sb, .slice A args.length cap] 24)).heap.size = w.heap.size + 1 := by simp
  have hby := Blk.new (w.alloc (.cells #[.int .i64 op, .int .i64 n, .string nm, .string sb, .slice A args.length cap] 24)) 24 #[.int .i64 op2, .int .i64 n2, .string nm2, .string sb2, .slice A2 args2.length cap2]
  rw [hs1] at hby
  have o1 : Only [] (w.alloc (.cells #[.int .i64 op, .int .i64 n, .string nm, .string sb, .slice A args.length cap] 24)) ((w.alloc (.cells #[.int .i64 op, .int .i64 n, .string nm, .string sb, .slice A args.length cap] 24)).alloc (.cells #[.int .i64 op2, .int .i64 n2, .string nm2, .string sb2, .slice A2 args2.length cap2] 24)) := (Only.refl _ _).alloc _
  obtain ⟨b0, b1, b2, b3, b4, bl⟩ := (o1.blk hbx (by simp)).facts5
  obtain ⟨d0, d1, d2, d3, d4, dl⟩ := hby.facts5
  have HO := Lib.hid (o0.trans o1 (by simp))
  have HC := Lib.hid (alike40 21 (fun a b => a.tr.same b.tr) eg21 (ca := cap) (cb := cap2) (hLa.rowL.keep HO.out) (hLb.rowL.keep HO.out) (fun a ha b w' h1 h2 => ih a (by simpa [Ex.args] using ha) b w' h1 h2))
  clear hLa hLb ih hbx hby o0 o1
  show Calls Tryd.prog 21 #[.agg #[.int .i64 op, .int .i64 n, .string nm, .string sb, .slice A args.length cap], .agg #[.int .i64 op2, .int .i64 n2, .string nm2, .string sb2, .slice A2 args2.length cap2]] w _
  go_enter Tryd.func21, Tryd.ntmps21
  go_wp2_with (fail)
  · obtain rfl : op = op2 := by assumption
    obtain rfl : n = n2 := by assumption
    have E3 := Lib.hid (show nm.toList = nm2.toList by assumption)
    have E4 := Lib.hid (show sb.toList = sb2.toList by assumption)
    refine HC.out.mono ?_
    rintro r w3 ⟨rfl, o3⟩
    have HO3 := Lib.hid (HO.out.trans o3 (by simp))
    clear o3 b0 b1 b2 b3 b4 bl d0 d1 d2 d3 d4 dl
    go_wp2_with (fail)
    go_ret
    exact ⟨by rw [HE.out]; simp [E3.out, E4.out], HO3.out⟩
  all_goals
    refine bodyPost_ret (results_tmp rfl _ _ _) rfl ?_
    refine ⟨?_, ((Only.refl _ _).alloc _).alloc _⟩
    rw [HE.out]
    simp_all
end Go.Proofs.YtfnacnlaphpflaaDoor
