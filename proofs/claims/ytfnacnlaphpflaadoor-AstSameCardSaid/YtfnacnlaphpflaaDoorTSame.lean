/- Same, SameType: the program's. -/
import Derived.Test.YtfnacnlaphpflaaDoorTRight
import Derived.Test.YtfnacnlaphpflaaDoorFactsR
namespace Go.Proofs.YtfnacnlaphpflaaDoor
open Go.RowKit Go.Kx Go.Val
set_option maxRecDepth 100000
section
variable {α : Type}
/-- two rows alike, as far as p tells -/
def alikeQ (p : α → α → Bool) : List α → List α → Bool
  | [], [] => true
  | a :: us, b :: vs => p a b && alikeQ p us vs
  | _, _ => false
theorem alikeQ_len {p : α → α → Bool} : ∀ {us vs : List α}, us.length ≠ vs.length → alikeQ p us vs = false
  | [], [], h => absurd rfl h
  | [], _ :: _, _ => rfl
  | _ :: _, [], _ => rfl
  | a :: us, b :: vs, h => by
    show (p a b && alikeQ p us vs) = false
    rw [alikeQ_len (by simpa using h), Bool.and_false]
theorem alikeQ_take {p : α → α → Bool} : ∀ {us vs : List α} {k : Nat} {a b : α}, us.length = vs.length → us[k]? = some a → vs[k]? = some b → alikeQ p (us.take (k + 1)) (vs.take (k + 1)) = (alikeQ p (us.take k) (vs.take k) && p a b)
  | [], [], _, _, _, _, h, _ => by simp at h
  | x :: us, y :: vs, 0, a, b, _, h1, h2 => by
    simp at h1 h2
    subst h1 h2
    simp [alikeQ]
  | x :: us, y :: vs, k + 1, a, b, hl, h1, h2 => by
    have := alikeQ_take (p := p) (us := us) (vs := vs) (k := k) (a := a) (b := b) (by simpa using hl) (by simpa using h1) (by simpa using h2)
    rw [List.take_succ_cons, List.take_succ_cons, List.take_succ_cons, List.take_succ_cons]
    show (p x y && alikeQ p (us.take (k + 1)) (vs.take (k + 1))) = _
    rw [this]
    show _ = (p x y && alikeQ p (us.take k) (vs.take k) && p a b)
    rw [Bool.and_assoc]
  | [], _ :: _, _, _, _, hl, _, _ => by simp at hl
  | _ :: _, [], _, _, _, hl, _, _ => by simp at hl
theorem alikeQ_bad {p : α → α → Bool} : ∀ {us vs : List α} {k : Nat} {a b : α}, us[k]? = some a → vs[k]? = some b → p a b = false → alikeQ p us vs = false
  | [], _, _, _, _, h, _, _ => by simp at h
  | _ :: _, [], _, _, _, _, h, _ => by simp at h
  | x :: us, y :: vs, 0, a, b, h1, h2, h => by
    simp at h1 h2
    subst h1 h2
    show (p x y && _) = false
    rw [h]; rfl
  | x :: us, y :: vs, k + 1, a, b, h1, h2, h => by
    show (p x y && alikeQ p us vs) = false
    rw [alikeQ_bad (by simpa using h1) (by simpa using h2) h, Bool.and_false]
theorem alike_mapT {β : Type} {c : β → β → Bool} {f : α → β} : ∀ (us vs : List α), alikeF ((us.map f).map c) (vs.map f) = alikeQ (fun a b => c (f a) (f b)) us vs
  | [], [] => rfl
  | [], _ :: _ => rfl
  | _ :: _, [] => rfl
  | a :: us, b :: vs => by
    simp only [List.map_cons]
    show (_ && alikeF ((us.map f).map c) (vs.map f)) = (_ && alikeQ _ us vs)
    rw [alike_mapT us vs]
end
theorem toList_inj {s t : ByteArray} : s.toList = t.toList ↔ s = t := by
  constructor
  · intro h
    rw [ByteArray.toList_eq, ByteArray.toList_eq] at h
    exact ByteArray.ext (Array.ext' h)
  · rintro rfl; rfl
set_option maxHeartbeats 4000000 in
theorem alikeT (f : Nat) (p : Tx → Tx → Bool) (eg : ∀ args w, (callFunc f args).run Tryd.prog w = .ok (.enter f args) w) {A B : Option Addr} {ca cb : Nat} {us vs : List Tx} {w : World} (hA : RowLT w A us) (hB : RowLT w B vs)
    (hf : ∀ a ∈ us, ∀ b w', LiesT w' a → LiesT w' b → Calls Tryd.prog f #[a.val, b.val] w' fun r w'' => r = .returned (.bool (p a b)) ∧ Only [] w' w'') :
    Calls Tryd.prog 99 #[.slice A us.length ca, .slice B vs.length cb, .func (.func f) #[] #[]] w fun r w' => r = .returned (.bool (alikeQ p us vs)) ∧ Only [] w w' := by
  have hlA := hA.len
  have hlB := hB.len
  have HA := Lib.hid hA
  have HB := Lib.hid hB
  have HF := Lib.hid hf
  clear hA hB hf
  by_cases hl : us.length = vs.length
  · have e1 : ((us.length : Int) != (vs.length : Int)) = false := by simp [hl]
    have HL := Lib.hid hl
    rw [hl] at hlA e1 ⊢
    go_enter Tryd.func99, Tryd.ntmps99
    go_wp2_with (fail)
    go_loopw [15] (fun i wr => ∃ k : Nat, i = .int .i64 k ∧ k ≤ vs.length ∧ Hid (alikeQ p (us.take k) (vs.take k) = true) ∧ Hid (Only [] w wr)) (fun i _ => vs.length - (intOf i).toNat)
    case atStart => exact ⟨0, rfl, Nat.zero_le _, Lib.hid (by simp [alikeQ]), Lib.hid (Only.refl _ _)⟩
    case round =>
      obtain ⟨wq, rfl⟩ : ∃ wq : World, wq = wr := ⟨_, rfl⟩
      obtain ⟨k, rfl, hk, HP, HOr⟩ := hrel
      by_cases hlt : k < vs.length
      · obtain ⟨x, hx⟩ : ∃ e, us[k]? = some e := ⟨_, List.getElem?_eq_getElem (by have := HL.out; omega)⟩
        obtain ⟨y, hy⟩ : ∃ e, vs[k]? = some e := ⟨_, List.getElem?_eq_getElem hlt⟩
        have hmx : x ∈ us := List.mem_of_getElem? hx
        have HLx := Lib.hid ((HA.out.sub x hmx).keep HOr.out)
        have HLy := Lib.hid ((HB.out.sub y (List.mem_of_getElem? hy)).keep HOr.out)
        have hcall := HF.out x hmx y
        have HTK := Lib.hid (alikeQ_take (p := p) HL.out hx hy)
        have HBAD := Lib.hid (alikeQ_bad (p := p) hx hy)
        have hrx := (HA.out.row k _ hx).only HOr.out (by simp)
        have hry := (HB.out.row k _ hy).only HOr.out (by simp)
        obtain ⟨pe, hpe⟩ : ∃ pe, p x y = pe := ⟨_, rfl⟩
        rw [hpe] at hcall HTK HBAD
        obtain ⟨xk, xA, xcap, xl⟩ := x
        obtain ⟨yk, yA, ycap, yl⟩ := y
        obtain ⟨ba, oa, rfl, hba, c0, c1⟩ := hrx.cells
        obtain ⟨bb, ob, rfl, hbb, d0, d1⟩ := hry.cells
        have HC := Lib.hid (And.intro hba (And.intro c0 c1))
        have HD := Lib.hid (And.intro hbb (And.intro d0 d1))
        have HCA := Lib.hid (show ∀ w', Only [] wq w' → Calls Tryd.prog f #[.agg #[.int .i64 xk, .slice xA xl.length xcap], .agg #[.int .i64 yk, .slice yA yl.length ycap]] w' fun r w'' => r = .returned (.bool pe) ∧ Only [] w' w'' from fun w' o => hcall w' (HLx.out.keep o) (HLy.out.keep o))
        have hki : (0 : Int) ≤ (k : Int) := by omega
        have hki2 : (k : Int) < (vs.length : Int) := by omega
        clear hx hy hmx hcall hrx hry hpe c0 c1 d0 d1
        go_wp2_with (fail)
        refine (wpIn_wide (n := 9)).1 ?_
        refine wpIn_region_relR 10 (Only []) (fr := ?frg) (tl := ?tlg) (fun iq v wv => match iq with
          | 0 => v = .func (.func f) #[] #[]
          | 1 => v = .slice (some ⟨ba, oa, none⟩) vs.length ca
          | 2 => v = .int .i64 (k : Nat)
          | 3 => v = .pointer (some ⟨ba, oa + k * 2, none⟩)
          | 4 => v = .agg #[.int .i64 xk, .slice xA xl.length xcap]
          | 5 => v = .slice (some ⟨bb, ob, none⟩) vs.length cb
          | 6 => v = .int .i64 (k : Nat)
          | 7 => v = .pointer (some ⟨bb, ob + k * 2, none⟩)
          | 8 => v = .agg #[.int .i64 yk, .slice yA yl.length ycap]
          | 9 => v = .bool pe
          | _ => True) (.inl rfl) (by kernel_rfl) (by kernel_rfl) (by kernel_rfl) (by kernel_rfl) (by kernel_rfl) (by kernel_rfl) (by decide) ?htlg ?hfrg (Only.refl _ _) (fun _ _ _ h k => h.trans k (fun _ hx => .inl hx)) ?stabg ?stepsg ?doneg
        case htlg => simp only [List.drop_succ_cons, List.drop_zero]; rfl
        case hfrg => intro vals; simp only [putAll, dstAt, Act.put, List.getElem?_toArray, List.getElem?_cons_zero, List.getElem?_cons_succ, Option.bind_some, List.setIfInBounds_toArray, List.set_cons_zero, List.set_cons_succ]; rfl
        case stabg =>
          intro i v wa wb h
          try dsimp only
          split <;> first | exact id
        case stepsg =>
          refine ⟨?_, ?_, ?_, ?_, ?_, ?_, ?_, ?_, ?_, ?_, trivial⟩
          · intro vals wr hR hp K hK
            dsimp only at hK ⊢
            clear hp
            unfold RunsOp
            go_simp
            exact hK.out _ _ ⟨_, rfl, Only.refl _ _, rfl⟩
          · intro vals wr hR hp K hK
            dsimp only at hK ⊢
            clear hp
            unfold RunsOp
            go_simp
            exact hK.out _ _ ⟨_, rfl, Only.refl _ _, rfl⟩
          · intro vals wr hR hp K hK
            dsimp only at hK ⊢
            clear hp
            unfold RunsOp
            go_simp
            exact hK.out _ _ ⟨_, rfl, Only.refl _ _, rfl⟩
          · intro vals wr hR hp K hK
            dsimp only at hK ⊢
            obtain ⟨p1, p2, -⟩ := hp
            replace p1 := p1 rfl
            replace p2 := p2 rfl
            dsimp only at p1 p2
            rw [p1, p2] at hK ⊢
            clear p1 p2
            unfold RunsOp
            go_simp
            exact hK.out _ _ ⟨_, rfl, Only.refl _ _, rfl⟩
          · intro vals wr hR hp K hK
            dsimp only at hK ⊢
            obtain ⟨p3, -⟩ := hp
            replace p3 := p3 rfl
            dsimp only at p3
            rw [p3] at hK ⊢
            clear p3
            unfold RunsOp
            have q0 := (hR.cell (p := ⟨ba, oa + k * 2, none⟩) HC.out.1 (by simp)).trans HC.out.2.1
            have q1 := (hR.cell (p := ⟨ba, oa + k * 2 + 1, none⟩) HC.out.1 (by simp)).trans HC.out.2.2
            go_simp
            exact hK.out _ _ ⟨_, rfl, Only.refl _ _, rfl⟩
          · intro vals wr hR hp K hK
            dsimp only at hK ⊢
            clear hp
            unfold RunsOp
            go_simp
            exact hK.out _ _ ⟨_, rfl, Only.refl _ _, rfl⟩
          · intro vals wr hR hp K hK
            dsimp only at hK ⊢
            clear hp
            unfold RunsOp
            go_simp
            exact hK.out _ _ ⟨_, rfl, Only.refl _ _, rfl⟩
          · intro vals wr hR hp K hK
            dsimp only at hK ⊢
            obtain ⟨p5, p6, -⟩ := hp
            replace p5 := p5 rfl
            replace p6 := p6 rfl
            dsimp only at p5 p6
            rw [p5, p6] at hK ⊢
            clear p5 p6
            unfold RunsOp
            go_simp
            exact hK.out _ _ ⟨_, rfl, Only.refl _ _, rfl⟩
          · intro vals wr hR hp K hK
            dsimp only at hK ⊢
            obtain ⟨p7, -⟩ := hp
            replace p7 := p7 rfl
            dsimp only at p7
            rw [p7] at hK ⊢
            clear p7
            unfold RunsOp
            have q0 := (hR.cell (p := ⟨bb, ob + k * 2, none⟩) HD.out.1 (by simp)).trans HD.out.2.1
            have q1 := (hR.cell (p := ⟨bb, ob + k * 2 + 1, none⟩) HD.out.1 (by simp)).trans HD.out.2.2
            go_simp
            exact hK.out _ _ ⟨_, rfl, Only.refl _ _, rfl⟩
          · intro vals wr hR hp K hK
            dsimp only at hK ⊢
            obtain ⟨p0, p4, p8, -⟩ := hp
            replace p0 := p0 rfl
            replace p4 := p4 rfl
            replace p8 := p8 rfl
            dsimp only at p0 p4 p8
            rw [p0, p4, p8] at hK ⊢
            clear p0 p4 p8
            unfold RunsOp
            go_simp
            refine (HCA.out _ ((Only.refl [] wq).drew.trans hR (by simp))).mono ?_
            rintro e' w2 ⟨rfl, o2⟩
            exact hK.out _ _ ⟨_, rfl, o2, rfl⟩
        case doneg =>
          intro vals wd hR hF
          have f0 : vals 0 = .func (.func f) #[] #[] := hF 0 (by decide)
          have f1 : vals 1 = .slice (some ⟨ba, oa, none⟩) vs.length ca := hF 1 (by decide)
          have f2 : vals 2 = .int .i64 (k : Nat) := hF 2 (by decide)
          have f3 : vals 3 = .pointer (some ⟨ba, oa + k * 2, none⟩) := hF 3 (by decide)
          have f4 : vals 4 = .agg #[.int .i64 xk, .slice xA xl.length xcap] := hF 4 (by decide)
          have f5 : vals 5 = .slice (some ⟨bb, ob, none⟩) vs.length cb := hF 5 (by decide)
          have f6 : vals 6 = .int .i64 (k : Nat) := hF 6 (by decide)
          have f7 : vals 7 = .pointer (some ⟨bb, ob + k * 2, none⟩) := hF 7 (by decide)
          have f8 : vals 8 = .agg #[.int .i64 yk, .slice yA yl.length ycap] := hF 8 (by decide)
          have f9 : (vals 9) = .bool pe := hF 9 (by decide)
          rw [f0, f1, f2, f3, f4, f5, f6, f7, f8]
          clear f0 f1 f2 f3 f4 f5 f6 f7 f8
          rw [f9]
          clear f9
          have HO5 := Lib.hid (HOr.out.trans ((Only.refl [] wq).drew.trans hR (by simp)) (by simp))
          clear hR hF
          cases pe with
          | true =>
            gi_wp2_with (fail)
            go_wp2_with (fail)
            go_roundw
            case rel => exact ⟨k + 1, by go_num, by omega, Lib.hid (by rw [HTK.out, HP.out]; rfl), HO5⟩
            case measure => simp [intOf]; omega
          | false =>
            gi_wp2_with (fail)
            go_wp2_with (fail)
            go_ret
            exact ⟨by rw [HBAD.out (by first | rfl | trivial)]; rfl, HO5.out⟩
      · obtain rfl : k = vs.length := by omega
        go_wp2_with (fail)
        go_ret
        exact ⟨by have := HP.out; rw [List.take_length, List.take_of_length_le (by have := HL.out; omega)] at this; rw [this]; rfl, HOr.out⟩
  · have e1 : ((us.length : Int) != (vs.length : Int)) = true := by simp; omega
    have HE := Lib.hid (alikeQ_len (p := p) hl)
    clear hl
    go_enter Tryd.func99, Tryd.ntmps99
    go_wp2_with (fail)
    go_ret
    exact ⟨by rw [HE.out]; rfl, Only.refl _ _⟩
theorem eg15 : ∀ args w, (callFunc 82 args).run Tryd.prog w = .ok (.enter 82 args) w := enters Tryd.func82 (by kernel_rfl) rfl
set_option maxHeartbeats 4000000 in
theorem sameT : ∀ (a b : Tx) (w : World), LiesT w a → LiesT w b →
    Calls Tryd.prog 82 #[a.val, b.val] w fun r w' => r = .returned (.bool (a.tr.same b.tr)) ∧ Only [] w w' := by
  refine Tx.ind (fun a ih => ?_)
  intro b w hLa hLb
  obtain ⟨k, A, cap, l⟩ := a
  obtain ⟨k2, A2, cap2, l2⟩ := b
  have HE := Lib.hid (show (Tx.mk k A cap l).tr.same (Tx.mk k2 A2 cap2 l2).tr = (decide (k = k2) && alikeQ (fun a b : Tx => a.tr.same b.tr) l l2) by
    rw [Tx.tr_mk, Tx.tr_mk, Tt.same_mk, alike_mapT])
  have hbx := Blk.new w 93 #[.int .i64 k, .slice A l.length cap]
  have o0 : Only [] w (w.alloc (.cells #[.int .i64 k, .slice A l.length cap] 93)) := (Only.refl _ _).alloc _
  have hs1 : (w.alloc (.cells #[.int .i64 k, .slice A l.length cap] 93)).heap.size = w.heap.size + 1 := by simp
  have hby := Blk.new (w.alloc (.cells #[.int .i64 k, .slice A l.length cap] 93)) 93 #[.int .i64 k2, .slice A2 l2.length cap2]
  rw [hs1] at hby
  have o1 : Only [] (w.alloc (.cells #[.int .i64 k, .slice A l.length cap] 93)) ((w.alloc (.cells #[.int .i64 k, .slice A l.length cap] 93)).alloc (.cells #[.int .i64 k2, .slice A2 l2.length cap2] 93)) := (Only.refl _ _).alloc _
  have HBX := Lib.hid (o1.blk hbx (by simp))
  have HBY := Lib.hid hby
  obtain ⟨b0, b1, bl⟩ := HBX.out.facts2
  obtain ⟨d0, d1, dl⟩ := hby.facts2
  have HO := Lib.hid (o0.trans o1 (by simp))
  have HC := Lib.hid (alikeT 82 (fun a b => a.tr.same b.tr) eg15 (ca := cap) (cb := cap2) (hLa.rowL.keep HO.out) (hLb.rowL.keep HO.out) (fun a ha b w' h1 h2 => ih a (by simpa [Tx.l] using ha) b w' h1 h2))
  clear hLa hLb ih hbx hby o0 o1
  show Calls Tryd.prog 82 #[.agg #[.int .i64 k, .slice A l.length cap], .agg #[.int .i64 k2, .slice A2 l2.length cap2]] w _
  go_enter Tryd.func82, Tryd.ntmps82
  go_wp2_with (fail)
  · obtain rfl : k = k2 := by assumption
    refine HC.out.mono ?_
    rintro r w3 ⟨rfl, o3⟩
    have HO3 := Lib.hid (HO.out.trans o3 (by simp))
    clear o3 b0 b1 bl d0 d1 dl
    go_wp2_with (fail)
    go_ret
    exact ⟨by rw [HE.out]; simp, HO3.out⟩
  all_goals
    refine bodyPost_ret (results_tmp rfl _ _ _) rfl ?_
    refine ⟨?_, ((Only.refl _ _).alloc _).alloc _⟩
    rw [HE.out]
    simp_all
end Go.Proofs.YtfnacnlaphpflaaDoor
