/- alike, over rows. -/
import Derived.Test.YtfnacnlaphpflaaDoorPro
import Derived.Test.YtfnacnlaphpflaaDoorFactsR
namespace Go.Proofs.YtfnacnlaphpflaaDoor
open Go.RowKit Go.Kx
open Go.Val (Tt)
set_option maxRecDepth 100000
/-- alike, item by item -/
def alikeG {α : Type} (p : α → α → Bool) : List α → List α → Bool
  | [], [] => true
  | a :: us, b :: vs => p a b && alikeG p us vs
  | _, _ => false
section
variable {α : Type} {p : α → α → Bool}
theorem alikeG_len : ∀ {us vs : List α}, us.length ≠ vs.length → alikeG p us vs = false
  | [], [], h => absurd rfl h
  | [], _ :: _, _ => rfl
  | _ :: _, [], _ => rfl
  | a :: us, b :: vs, h => by
    show (p a b && alikeG p us vs) = false
    rw [alikeG_len (by simpa using h), Bool.and_false]
theorem alikeG_take : ∀ {us vs : List α} {k : Nat} {a b : α}, us.length = vs.length → us[k]? = some a → vs[k]? = some b → alikeG p (us.take (k + 1)) (vs.take (k + 1)) = (alikeG p (us.take k) (vs.take k) && p a b)
  | [], [], _, _, _, _, h, _ => by simp at h
  | x :: us, y :: vs, 0, a, b, _, h1, h2 => by
    simp at h1 h2
    subst h1 h2
    simp [alikeG]
  | x :: us, y :: vs, k + 1, a, b, hl, h1, h2 => by
    have := alikeG_take (us := us) (vs := vs) (k := k) (a := a) (b := b) (by simpa using hl) (by simpa using h1) (by simpa using h2)
    rw [List.take_succ_cons, List.take_succ_cons, List.take_succ_cons, List.take_succ_cons]
    show (p x y && alikeG p (us.take (k + 1)) (vs.take (k + 1))) = _
    rw [this]
    show _ = (p x y && alikeG p (us.take k) (vs.take k) && p a b)
    rw [Bool.and_assoc]
  | [], _ :: _, _, _, _, hl, _, _ => by simp at hl
  | _ :: _, [], _, _, _, hl, _, _ => by simp at hl
theorem alikeG_bad : ∀ {us vs : List α} {k : Nat} {a b : α}, us[k]? = some a → vs[k]? = some b → p a b = false → alikeG p us vs = false
  | [], _, _, _, _, h, _, _ => by simp at h
  | _ :: _, [], _, _, _, _, h, _ => by simp at h
  | x :: us, y :: vs, 0, a, b, h1, h2, h => by
    simp at h1 h2
    subst h1 h2
    show (p x y && _) = false
    rw [h]; rfl
  | x :: us, y :: vs, k + 1, a, b, h1, h2, h => by
    show (p x y && alikeG p us vs) = false
    rw [alikeG_bad (by simpa using h1) (by simpa using h2) h, Bool.and_false]
end
set_option maxHeartbeats 4000000 in
theorem alike_Po (f : Nat) (p : Po → Po → Bool) (eg : ∀ args w, (callFunc f args).run Tryd.prog w = .ok (.enter f args) w) {A B : Option Addr} {ca cb : Nat} {us vs : List Po} {w : World} (hA : RowX Po.cs 3 Po.Li w A us) (hB : RowX Po.cs 3 Po.Li w B vs)
    (hf : ∀ a, a ∈ us → ∀ b, b ∈ vs → ∀ w', Po.Li w' a → Po.Li w' b → Calls Tryd.prog f #[a.val, b.val] w' fun r w'' => r = .returned (.bool (p a b)) ∧ Only [] w' w'') :
    Calls Tryd.prog 57 #[.slice A us.length ca, .slice B vs.length cb, .func (.func f) #[] #[]] w fun r w' => r = .returned (.bool (alikeG p us vs)) ∧ Only [] w w' := by
  have hlA := hA.len
  have hlB := hB.len
  have HA := Lib.hid hA
  have HB := Lib.hid hB
  have HF := Lib.hid hf
  clear hA hB hf
  by_cases hl : us.length = vs.length
  · have e1 : ((us.length : Int) != (vs.length : Int)) = false := by simp [hl]
    have HL := Lib.hid hl
    rw [hl] at hlA e1 ⊢
    go_enter Tryd.func57, Tryd.ntmps57
    go_wp2_with (fail)
    go_loopw [15] (fun i wr => ∃ k : Nat, i = .int .i64 k ∧ k ≤ vs.length ∧ Hid (alikeG p (us.take k) (vs.take k) = true) ∧ Hid (Only [] w wr)) (fun i _ => vs.length - (intOf i).toNat)
    case atStart => exact ⟨0, rfl, Nat.zero_le _, Lib.hid (by simp [alikeG]), Lib.hid (Only.refl _ _)⟩
    case round =>
      obtain ⟨k, rfl, hk, HP, HOr⟩ := hrel
      by_cases hlt : k < vs.length
      · obtain ⟨x, hx⟩ : ∃ e, us[k]? = some e := ⟨_, List.getElem?_eq_getElem (by have := HL.out; omega)⟩
        obtain ⟨y, hy⟩ : ∃ e, vs[k]? = some e := ⟨_, List.getElem?_eq_getElem hlt⟩
        have hmx : x ∈ us := List.mem_of_getElem? hx
        have hmy : y ∈ vs := List.mem_of_getElem? hy
        have HLx := Lib.hid (Po.Li.keep _ _ _ (HA.out.sub x hmx) HOr.out)
        have HLy := Lib.hid (Po.Li.keep _ _ _ (HB.out.sub y hmy) HOr.out)
        have hcall := HF.out x hmx y hmy
        have HTK := Lib.hid (alikeG_take (p := p) HL.out hx hy)
        have HBAD := Lib.hid (alikeG_bad (p := p) hx hy)
        have hrx := (HA.out.row k _ hx).keep HOr.out
        have hry := (HB.out.row k _ hy).keep HOr.out
        obtain ⟨pe, hpe⟩ : ∃ pe, p x y = pe := ⟨_, rfl⟩
        rw [hpe] at hcall HTK HBAD
        obtain ⟨xn, xtk, xtA, xtc, xtl⟩ := x
        obtain ⟨yn, ytk, ytA, ytc, ytl⟩ := y
        obtain ⟨ba, oa, rfl, hba, c0, c1, c2⟩ := Po.at_cells hrx
        obtain ⟨bb, ob, rfl, hbb, d0, d1, d2⟩ := Po.at_cells hry
        have HCX := Lib.hid (show ba < wr.heap.size ∧ wr.cell? ⟨ba, oa + k * 3, none⟩ = some (.string xn) ∧ wr.cell? ⟨ba, oa + k * 3 + 1, none⟩ = some (.int .i64 xtk) ∧ wr.cell? ⟨ba, oa + k * 3 + 2, none⟩ = some (.slice xtA xtl.length xtc) from ⟨hba, c0, c1, c2⟩)
        have HCY := Lib.hid (show bb < wr.heap.size ∧ wr.cell? ⟨bb, ob + k * 3, none⟩ = some (.string yn) ∧ wr.cell? ⟨bb, ob + k * 3 + 1, none⟩ = some (.int .i64 ytk) ∧ wr.cell? ⟨bb, ob + k * 3 + 2, none⟩ = some (.slice ytA ytl.length ytc) from ⟨hbb, d0, d1, d2⟩)
        have HCA := Lib.hid (show ∀ w', Only [] wr w' → Calls Tryd.prog f #[.agg #[.string xn, .int .i64 xtk, .slice xtA xtl.length xtc], .agg #[.string yn, .int .i64 ytk, .slice ytA ytl.length ytc]] w' fun r w'' => r = .returned (.bool pe) ∧ Only [] w' w'' from fun w' o => hcall w' (Po.Li.keep _ _ _ HLx.out o) (Po.Li.keep _ _ _ HLy.out o))
        have hki : (0 : Int) ≤ (k : Int) := by omega
        have hki2 : (k : Int) < (vs.length : Int) := by omega
        clear hx hy hmx hmy hcall hrx hry hpe c0 c1 c2 d0 d1 d2 hba hbb
        obtain ⟨wq, hwq⟩ : ∃ wq : World, wq = wr := ⟨_, rfl⟩
        subst hwq
        go_wp2_with (fail)
        refine (wpIn_wide (n := 9)).1 ?_
        refine wpIn_region_relR 11 (Only []) (fr := ?frk6) (tl := ?tlk6) (fun iq v wv => match iq with
          | 0 => v = .func (.func f) #[] #[]
          | 1 => v = .slice (some ⟨ba, oa, none⟩) vs.length ca
          | 2 => v = .int .i64 (k : Int)
          | 3 => v = .pointer (some ⟨ba, oa + k * 3, none⟩)
          | 4 => v = .agg #[.string xn, .int .i64 xtk, .slice xtA xtl.length xtc]
          | 5 => v = .slice (some ⟨bb, ob, none⟩) vs.length cb
          | 6 => v = .int .i64 (k : Int)
          | 7 => v = .pointer (some ⟨bb, ob + k * 3, none⟩)
          | 8 => v = .agg #[.string yn, .int .i64 ytk, .slice ytA ytl.length ytc]
          | 9 => v = .bool pe
          | 10 => v = .bool !pe
          | _ => True) (.inl rfl) (by kernel_rfl) (by kernel_rfl) (by kernel_rfl) (by kernel_rfl) (by kernel_rfl) (by kernel_rfl) (by decide) ?htlk6 ?hfrk6 (Only.refl _ _) (fun _ _ _ h k => h.trans k (fun _ hx => .inl hx)) ?stabk6 ?stepsk6 ?donek6
        case htlk6 => simp only [List.drop_succ_cons, List.drop_zero]; rfl
        case hfrk6 => intro vals; simp only [putAll, dstAt, Act.put, List.getElem?_toArray, List.getElem?_cons_zero, List.getElem?_cons_succ, Option.bind_some, List.setIfInBounds_toArray, List.set_cons_zero, List.set_cons_succ]; rfl
        case stabk6 =>
          intro i v wa wb h
          try dsimp only
          split <;> first | exact id
        case stepsk6 =>
          refine ⟨?_, ?_, ?_, ?_, ?_, ?_, ?_, ?_, ?_, ?_, ?_, trivial⟩
          · intro vals wr hR hp K hK
            dsimp only at hK ⊢
            clear hp
            unfold RunsOp
            go_simp
            exact hK.out _ _ ⟨_, rfl, Only.refl _ _, rfl⟩
          · intro vals wr hR hp K hK
            dsimp only at hK ⊢
            clear hp
            unfold RunsOp
            go_simp
            exact hK.out _ _ ⟨_, rfl, Only.refl _ _, rfl⟩
          · intro vals wr hR hp K hK
            dsimp only at hK ⊢
            clear hp
            unfold RunsOp
            go_simp
            exact hK.out _ _ ⟨_, rfl, Only.refl _ _, rfl⟩
          · intro vals wr hR hp K hK
            dsimp only at hK ⊢
            obtain ⟨p1, p2, -⟩ := hp
            replace p1 := p1 rfl
            replace p2 := p2 rfl
            dsimp only at p1 p2
            rw [p1, p2] at hK ⊢
            clear p1 p2
            unfold RunsOp
            go_simp
            exact hK.out _ _ ⟨_, rfl, Only.refl _ _, rfl⟩
          · intro vals wr hR hp K hK
            dsimp only at hK ⊢
            obtain ⟨p3, -⟩ := hp
            replace p3 := p3 rfl
            dsimp only at p3
            rw [p3] at hK ⊢
            clear p3
            unfold RunsOp
            have q0 := (hR.cell (p := ⟨ba, oa + k * 3, none⟩) HCX.out.1 (by simp)).trans HCX.out.2.1
            have q1 := (hR.cell (p := ⟨ba, oa + k * 3 + 1, none⟩) HCX.out.1 (by simp)).trans HCX.out.2.2.1
            have q2 := (hR.cell (p := ⟨ba, oa + k * 3 + 2, none⟩) HCX.out.1 (by simp)).trans HCX.out.2.2.2
            go_simp
            exact hK.out _ _ ⟨_, rfl, Only.refl _ _, rfl⟩
          · intro vals wr hR hp K hK
            dsimp only at hK ⊢
            clear hp
            unfold RunsOp
            go_simp
            exact hK.out _ _ ⟨_, rfl, Only.refl _ _, rfl⟩
          · intro vals wr hR hp K hK
            dsimp only at hK ⊢
            clear hp
            unfold RunsOp
            go_simp
            exact hK.out _ _ ⟨_, rfl, Only.refl _ _, rfl⟩
          · intro vals wr hR hp K hK
            dsimp only at hK ⊢
            obtain ⟨p5, p6, -⟩ := hp
            replace p5 := p5 rfl
            replace p6 := p6 rfl
            dsimp only at p5 p6
            rw [p5, p6] at hK ⊢
            clear p5 p6
            unfold RunsOp
            go_simp
            exact hK.out _ _ ⟨_, rfl, Only.refl _ _, rfl⟩
          · intro vals wr hR hp K hK
            dsimp only at hK ⊢
            obtain ⟨p7, -⟩ := hp
            replace p7 := p7 rfl
            dsimp only at p7
            rw [p7] at hK ⊢
            clear p7
            unfold RunsOp
            have q0 := (hR.cell (p := ⟨bb, ob + k * 3, none⟩) HCY.out.1 (by simp)).trans HCY.out.2.1
            have q1 := (hR.cell (p := ⟨bb, ob + k * 3 + 1, none⟩) HCY.out.1 (by simp)).trans HCY.out.2.2.1
            have q2 := (hR.cell (p := ⟨bb, ob + k * 3 + 2, none⟩) HCY.out.1 (by simp)).trans HCY.out.2.2.2
            go_simp
            exact hK.out _ _ ⟨_, rfl, Only.refl _ _, rfl⟩
          · intro vals wr hR hp K hK
            dsimp only at hK ⊢
            obtain ⟨p0, p4, p8, -⟩ := hp
            replace p0 := p0 rfl
            replace p4 := p4 rfl
            replace p8 := p8 rfl
            dsimp only at p0 p4 p8
            rw [p0, p4, p8] at hK ⊢
            clear p0 p4 p8
            unfold RunsOp
            go_simp
            refine (HCA.out _ ((Only.refl [] _).drew.trans hR (by simp))).mono ?_
            rintro e' w2 ⟨rfl, o2⟩
            exact hK.out _ _ ⟨_, rfl, o2, rfl⟩
          · intro vals wr hR hp K hK
            dsimp only at hK ⊢
            obtain ⟨p9, -⟩ := hp
            replace p9 := p9 rfl
            dsimp only at p9
            rw [p9] at hK ⊢
            clear p9
            unfold RunsOp
            go_simp
            exact hK.out _ _ ⟨_, rfl, Only.refl _ _, rfl⟩
        case donek6 =>
          intro vals wd hR hF
          have f0 : vals 0 = .func (.func f) #[] #[] := hF 0 (by decide)
          have f1 : vals 1 = .slice (some ⟨ba, oa, none⟩) vs.length ca := hF 1 (by decide)
          have f2 : vals 2 = .int .i64 (k : Int) := hF 2 (by decide)
          have f3 : vals 3 = .pointer (some ⟨ba, oa + k * 3, none⟩) := hF 3 (by decide)
          have f4 : vals 4 = .agg #[.string xn, .int .i64 xtk, .slice xtA xtl.length xtc] := hF 4 (by decide)
          have f5 : vals 5 = .slice (some ⟨bb, ob, none⟩) vs.length cb := hF 5 (by decide)
          have f6 : vals 6 = .int .i64 (k : Int) := hF 6 (by decide)
          have f7 : vals 7 = .pointer (some ⟨bb, ob + k * 3, none⟩) := hF 7 (by decide)
          have f8 : vals 8 = .agg #[.string yn, .int .i64 ytk, .slice ytA ytl.length ytc] := hF 8 (by decide)
          have f9 : vals 9 = .bool pe := hF 9 (by decide)
          have f10 : vals 10 = .bool !pe := hF 10 (by decide)
          rw [f0, f1, f2, f3, f4, f5, f6, f7, f8, f9, f10]
          clear f0 f1 f2 f3 f4 f5 f6 f7 f8 f9 f10
          have HO5 := Lib.hid (HOr.out.trans ((Only.refl [] _).drew.trans hR (by simp)) (by simp))
          clear hR hF
          gi_wp2_with (fail)
          cases pe with
          | true =>
            go_wp2_with (fail)
            go_roundw
            case rel => exact ⟨k + 1, by go_num, by omega, Lib.hid (by rw [HTK.out, HP.out]; rfl), HO5⟩
            case measure => simp [intOf] <;> omega
          | false =>
            go_wp2_with (fail)
            go_ret
            exact ⟨by rw [HBAD.out (by first | rfl | trivial)]; rfl, HO5.out⟩
      · obtain rfl : k = vs.length := by omega
        go_wp2_with (fail)
        go_ret
        exact ⟨by have := HP.out; rw [List.take_length, List.take_of_length_le (by have := HL.out; omega)] at this; rw [this]; rfl, HOr.out⟩
  · have e1 : ((us.length : Int) != (vs.length : Int)) = true := by simp; omega
    have HE := Lib.hid (alikeG_len (p := p) hl)
    clear hl
    go_enter Tryd.func57, Tryd.ntmps57
    go_wp2_with (fail)
    go_ret
    exact ⟨by rw [HE.out]; rfl, Only.refl _ _⟩
set_option maxHeartbeats 4000000 in
theorem alike_Se (f : Nat) (p : Se → Se → Bool) (eg : ∀ args w, (callFunc f args).run Tryd.prog w = .ok (.enter f args) w) {A B : Option Addr} {ca cb : Nat} {us vs : List Se} {w : World} (hA : RowX Se.cs 6 Se.Li w A us) (hB : RowX Se.cs 6 Se.Li w B vs)
    (hf : ∀ a, a ∈ us → ∀ b, b ∈ vs → ∀ w', Se.Li w' a → Se.Li w' b → Calls Tryd.prog f #[a.val, b.val] w' fun r w'' => r = .returned (.bool (p a b)) ∧ Only [] w' w'') :
    Calls Tryd.prog 59 #[.slice A us.length ca, .slice B vs.length cb, .func (.func f) #[] #[]] w fun r w' => r = .returned (.bool (alikeG p us vs)) ∧ Only [] w w' := by
  have hlA := hA.len
  have hlB := hB.len
  have HA := Lib.hid hA
  have HB := Lib.hid hB
  have HF := Lib.hid hf
  clear hA hB hf
  by_cases hl : us.length = vs.length
  · have e1 : ((us.length : Int) != (vs.length : Int)) = false := by simp [hl]
    have HL := Lib.hid hl
    rw [hl] at hlA e1 ⊢
    go_enter Tryd.func59, Tryd.ntmps59
    go_wp2_with (fail)
    go_loopw [15] (fun i wr => ∃ k : Nat, i = .int .i64 k ∧ k ≤ vs.length ∧ Hid (alikeG p (us.take k) (vs.take k) = true) ∧ Hid (Only [] w wr)) (fun i _ => vs.length - (intOf i).toNat)
    case atStart => exact ⟨0, rfl, Nat.zero_le _, Lib.hid (by simp [alikeG]), Lib.hid (Only.refl _ _)⟩
    case round =>
      obtain ⟨k, rfl, hk, HP, HOr⟩ := hrel
      by_cases hlt : k < vs.length
      · obtain ⟨x, hx⟩ : ∃ e, us[k]? = some e := ⟨_, List.getElem?_eq_getElem (by have := HL.out; omega)⟩
        obtain ⟨y, hy⟩ : ∃ e, vs[k]? = some e := ⟨_, List.getElem?_eq_getElem hlt⟩
        have hmx : x ∈ us := List.mem_of_getElem? hx
        have hmy : y ∈ vs := List.mem_of_getElem? hy
        have HLx := Lib.hid (Se.Li.keep _ _ _ (HA.out.sub x hmx) HOr.out)
        have HLy := Lib.hid (Se.Li.keep _ _ _ (HB.out.sub y hmy) HOr.out)
        have hcall := HF.out x hmx y hmy
        have HTK := Lib.hid (alikeG_take (p := p) HL.out hx hy)
        have HBAD := Lib.hid (alikeG_bad (p := p) hx hy)
        have hrx := (HA.out.row k _ hx).keep HOr.out
        have hry := (HB.out.row k _ hy).keep HOr.out
        obtain ⟨pe, hpe⟩ : ∃ pe, p x y = pe := ⟨_, rfl⟩
        rw [hpe] at hcall HTK HBAD
        obtain ⟨xn, xeo, xen, xes, xeu, xeA, xec, xel⟩ := x
        obtain ⟨yn, yeo, yen, yes, yeu, yeA, yec, yel⟩ := y
        obtain ⟨ba, oa, rfl, hba, c0, c1, c2, c3, c4, c5⟩ := Se.at_cells hrx
        obtain ⟨bb, ob, rfl, hbb, d0, d1, d2, d3, d4, d5⟩ := Se.at_cells hry
        have HCX := Lib.hid (show ba < wr.heap.size ∧ wr.cell? ⟨ba, oa + k * 6, none⟩ = some (.string xn) ∧ wr.cell? ⟨ba, oa + k * 6 + 1, none⟩ = some (.int .i64 xeo) ∧ wr.cell? ⟨ba, oa + k * 6 + 2, none⟩ = some (.int .i64 xen) ∧ wr.cell? ⟨ba, oa + k * 6 + 3, none⟩ = some (.string xes) ∧ wr.cell? ⟨ba, oa + k * 6 + 4, none⟩ = some (.string xeu) ∧ wr.cell? ⟨ba, oa + k * 6 + 5, none⟩ = some (.slice xeA xel.length xec) from ⟨hba, c0, c1, c2, c3, c4, c5⟩)
        have HCY := Lib.hid (show bb < wr.heap.size ∧ wr.cell? ⟨bb, ob + k * 6, none⟩ = some (.string yn) ∧ wr.cell? ⟨bb, ob + k * 6 + 1, none⟩ = some (.int .i64 yeo) ∧ wr.cell? ⟨bb, ob + k * 6 + 2, none⟩ = some (.int .i64 yen) ∧ wr.cell? ⟨bb, ob + k * 6 + 3, none⟩ = some (.string yes) ∧ wr.cell? ⟨bb, ob + k * 6 + 4, none⟩ = some (.string yeu) ∧ wr.cell? ⟨bb, ob + k * 6 + 5, none⟩ = some (.slice yeA yel.length yec) from ⟨hbb, d0, d1, d2, d3, d4, d5⟩)
        have HCA := Lib.hid (show ∀ w', Only [] wr w' → Calls Tryd.prog f #[.agg #[.string xn, .int .i64 xeo, .int .i64 xen, .string xes, .string xeu, .slice xeA xel.length xec], .agg #[.string yn, .int .i64 yeo, .int .i64 yen, .string yes, .string yeu, .slice yeA yel.length yec]] w' fun r w'' => r = .returned (.bool pe) ∧ Only [] w' w'' from fun w' o => hcall w' (Se.Li.keep _ _ _ HLx.out o) (Se.Li.keep _ _ _ HLy.out o))
        have hki : (0 : Int) ≤ (k : Int) := by omega
        have hki2 : (k : Int) < (vs.length : Int) := by omega
        clear hx hy hmx hmy hcall hrx hry hpe c0 c1 c2 c3 c4 c5 d0 d1 d2 d3 d4 d5 hba hbb
        obtain ⟨wq, hwq⟩ : ∃ wq : World, wq = wr := ⟨_, rfl⟩
        subst hwq
        go_wp2_with (fail)
        refine (wpIn_wide (n := 9)).1 ?_
        refine wpIn_region_relR 11 (Only []) (fr := ?frk6) (tl := ?tlk6) (fun iq v wv => match iq with
          | 0 => v = .func (.func f) #[] #[]
          | 1 => v = .slice (some ⟨ba, oa, none⟩) vs.length ca
          | 2 => v = .int .i64 (k : Int)
          | 3 => v = .pointer (some ⟨ba, oa + k * 6, none⟩)
          | 4 => v = .agg #[.string xn, .int .i64 xeo, .int .i64 xen, .string xes, .string xeu, .slice xeA xel.length xec]
          | 5 => v = .slice (some ⟨bb, ob, none⟩) vs.length cb
          | 6 => v = .int .i64 (k : Int)
          | 7 => v = .pointer (some ⟨bb, ob + k * 6, none⟩)
          | 8 => v = .agg #[.string yn, .int .i64 yeo, .int .i64 yen, .string yes, .string yeu, .slice yeA yel.length yec]
          | 9 => v = .bool pe
          | 10 => v = .bool !pe
          | _ => True) (.inl rfl) (by kernel_rfl) (by kernel_rfl) (by kernel_rfl) (by kernel_rfl) (by kernel_rfl) (by kernel_rfl) (by decide) ?htlk6 ?hfrk6 (Only.refl _ _) (fun _ _ _ h k => h.trans k (fun _ hx => .inl hx)) ?stabk6 ?stepsk6 ?donek6
        case htlk6 => simp only [List.drop_succ_cons, List.drop_zero]; rfl
        case hfrk6 => intro vals; simp only [putAll, dstAt, Act.put, List.getElem?_toArray, List.getElem?_cons_zero, List.getElem?_cons_succ, Option.bind_some, List.setIfInBounds_toArray, List.set_cons_zero, List.set_cons_succ]; rfl
        case stabk6 =>
          intro i v wa wb h
          try dsimp only
          split <;> first | exact id
        case stepsk6 =>
          refine ⟨?_, ?_, ?_, ?_, ?_, ?_, ?_, ?_, ?_, ?_, ?_, trivial⟩
          · intro vals wr hR hp K hK
            dsimp only at hK ⊢
            clear hp
            unfold RunsOp
            go_simp
            exact hK.out _ _ ⟨_, rfl, Only.refl _ _, rfl⟩
          · intro vals wr hR hp K hK
            dsimp only at hK ⊢
            clear hp
            unfold RunsOp
            go_simp
            exact hK.out _ _ ⟨_, rfl, Only.refl _ _, rfl⟩
          · intro vals wr hR hp K hK
            dsimp only at hK ⊢
            clear hp
            unfold RunsOp
            go_simp
            exact hK.out _ _ ⟨_, rfl, Only.refl _ _, rfl⟩
          · intro vals wr hR hp K hK
            dsimp only at hK ⊢
            obtain ⟨p1, p2, -⟩ := hp
            replace p1 := p1 rfl
            replace p2 := p2 rfl
            dsimp only at p1 p2
            rw [p1, p2] at hK ⊢
            clear p1 p2
            unfold RunsOp
            go_simp
            exact hK.out _ _ ⟨_, rfl, Only.refl _ _, rfl⟩
          · intro vals wr hR hp K hK
            dsimp only at hK ⊢
            obtain ⟨p3, -⟩ := hp
            replace p3 := p3 rfl
            dsimp only at p3
            rw [p3] at hK ⊢
            clear p3
            unfold RunsOp
            have q0 := (hR.cell (p := ⟨ba, oa + k * 6, none⟩) HCX.out.1 (by simp)).trans HCX.out.2.1
            have q1 := (hR.cell (p := ⟨ba, oa + k * 6 + 1, none⟩) HCX.out.1 (by simp)).trans HCX.out.2.2.1
            have q2 := (hR.cell (p := ⟨ba, oa + k * 6 + 2, none⟩) HCX.out.1 (by simp)).trans HCX.out.2.2.2.1
            have q3 := (hR.cell (p := ⟨ba, oa + k * 6 + 3, none⟩) HCX.out.1 (by simp)).trans HCX.out.2.2.2.2.1
            have q4 := (hR.cell (p := ⟨ba, oa + k * 6 + 4, none⟩) HCX.out.1 (by simp)).trans HCX.out.2.2.2.2.2.1
            have q5 := (hR.cell (p := ⟨ba, oa + k * 6 + 5, none⟩) HCX.out.1 (by simp)).trans HCX.out.2.2.2.2.2.2
            go_simp
            exact hK.out _ _ ⟨_, rfl, Only.refl _ _, rfl⟩
          · intro vals wr hR hp K hK
            dsimp only at hK ⊢
            clear hp
            unfold RunsOp
            go_simp
            exact hK.out _ _ ⟨_, rfl, Only.refl _ _, rfl⟩
          · intro vals wr hR hp K hK
            dsimp only at hK ⊢
            clear hp
            unfold RunsOp
            go_simp
            exact hK.out _ _ ⟨_, rfl, Only.refl _ _, rfl⟩
          · intro vals wr hR hp K hK
            dsimp only at hK ⊢
            obtain ⟨p5, p6, -⟩ := hp
            replace p5 := p5 rfl
            replace p6 := p6 rfl
            dsimp only at p5 p6
            rw [p5, p6] at hK ⊢
            clear p5 p6
            unfold RunsOp
            go_simp
            exact hK.out _ _ ⟨_, rfl, Only.refl _ _, rfl⟩
          · intro vals wr hR hp K hK
            dsimp only at hK ⊢
            obtain ⟨p7, -⟩ := hp
            replace p7 := p7 rfl
            dsimp only at p7
            rw [p7] at hK ⊢
            clear p7
            unfold RunsOp
            have q0 := (hR.cell (p := ⟨bb, ob + k * 6, none⟩) HCY.out.1 (by simp)).trans HCY.out.2.1
            have q1 := (hR.cell (p := ⟨bb, ob + k * 6 + 1, none⟩) HCY.out.1 (by simp)).trans HCY.out.2.2.1
            have q2 := (hR.cell (p := ⟨bb, ob + k * 6 + 2, none⟩) HCY.out.1 (by simp)).trans HCY.out.2.2.2.1
            have q3 := (hR.cell (p := ⟨bb, ob + k * 6 + 3, none⟩) HCY.out.1 (by simp)).trans HCY.out.2.2.2.2.1
            have q4 := (hR.cell (p := ⟨bb, ob + k * 6 + 4, none⟩) HCY.out.1 (by simp)).trans HCY.out.2.2.2.2.2.1
            have q5 := (hR.cell (p := ⟨bb, ob + k * 6 + 5, none⟩) HCY.out.1 (by simp)).trans HCY.out.2.2.2.2.2.2
            go_simp
            exact hK.out _ _ ⟨_, rfl, Only.refl _ _, rfl⟩
          · intro vals wr hR hp K hK
            dsimp only at hK ⊢
            obtain ⟨p0, p4, p8, -⟩ := hp
            replace p0 := p0 rfl
            replace p4 := p4 rfl
            replace p8 := p8 rfl
            dsimp only at p0 p4 p8
            rw [p0, p4, p8] at hK ⊢
            clear p0 p4 p8
            unfold RunsOp
            go_simp
            refine (HCA.out _ ((Only.refl [] _).drew.trans hR (by simp))).mono ?_
            rintro e' w2 ⟨rfl, o2⟩
            exact hK.out _ _ ⟨_, rfl, o2, rfl⟩
          · intro vals wr hR hp K hK
            dsimp only at hK ⊢
            obtain ⟨p9, -⟩ := hp
            replace p9 := p9 rfl
            dsimp only at p9
            rw [p9] at hK ⊢
            clear p9
            unfold RunsOp
            go_simp
            exact hK.out _ _ ⟨_, rfl, Only.refl _ _, rfl⟩
        case donek6 =>
          intro vals wd hR hF
          have f0 : vals 0 = .func (.func f) #[] #[] := hF 0 (by decide)
          have f1 : vals 1 = .slice (some ⟨ba, oa, none⟩) vs.length ca := hF 1 (by decide)
          have f2 : vals 2 = .int .i64 (k : Int) := hF 2 (by decide)
          have f3 : vals 3 = .pointer (some ⟨ba, oa + k * 6, none⟩) := hF 3 (by decide)
          have f4 : vals 4 = .agg #[.string xn, .int .i64 xeo, .int .i64 xen, .string xes, .string xeu, .slice xeA xel.length xec] := hF 4 (by decide)
          have f5 : vals 5 = .slice (some ⟨bb, ob, none⟩) vs.length cb := hF 5 (by decide)
          have f6 : vals 6 = .int .i64 (k : Int) := hF 6 (by decide)
          have f7 : vals 7 = .pointer (some ⟨bb, ob + k * 6, none⟩) := hF 7 (by decide)
          have f8 : vals 8 = .agg #[.string yn, .int .i64 yeo, .int .i64 yen, .string yes, .string yeu, .slice yeA yel.length yec] := hF 8 (by decide)
          have f9 : vals 9 = .bool pe := hF 9 (by decide)
          have f10 : vals 10 = .bool !pe := hF 10 (by decide)
          rw [f0, f1, f2, f3, f4, f5, f6, f7, f8, f9, f10]
          clear f0 f1 f2 f3 f4 f5 f6 f7 f8 f9 f10
          have HO5 := Lib.hid (HOr.out.trans ((Only.refl [] _).drew.trans hR (by simp)) (by simp))
          clear hR hF
          gi_wp2_with (fail)
          cases pe with
          | true =>
            go_wp2_with (fail)
            go_roundw
            case rel => exact ⟨k + 1, by go_num, by omega, Lib.hid (by rw [HTK.out, HP.out]; rfl), HO5⟩
            case measure => simp [intOf] <;> omega
          | false =>
            go_wp2_with (fail)
            go_ret
            exact ⟨by rw [HBAD.out (by first | rfl | trivial)]; rfl, HO5.out⟩
      · obtain rfl : k = vs.length := by omega
        go_wp2_with (fail)
        go_ret
        exact ⟨by have := HP.out; rw [List.take_length, List.take_of_length_le (by have := HL.out; omega)] at this; rw [this]; rfl, HOr.out⟩
  · have e1 : ((us.length : Int) != (vs.length : Int)) = true := by simp; omega
    have HE := Lib.hid (alikeG_len (p := p) hl)
    clear hl
    go_enter Tryd.func59, Tryd.ntmps59
    go_wp2_with (fail)
    go_ret
    exact ⟨by rw [HE.out]; rfl, Only.refl _ _⟩
set_option maxHeartbeats 4000000 in
theorem alike_Em (f : Nat) (p : Em → Em → Bool) (eg : ∀ args w, (callFunc f args).run Tryd.prog w = .ok (.enter f args) w) {A B : Option Addr} {ca cb : Nat} {us vs : List Em} {w : World} (hA : RowX Em.cs 7 Em.Li w A us) (hB : RowX Em.cs 7 Em.Li w B vs)
    (hf : ∀ a, a ∈ us → ∀ b, b ∈ vs → ∀ w', Em.Li w' a → Em.Li w' b → Calls Tryd.prog f #[a.val, b.val] w' fun r w'' => r = .returned (.bool (p a b)) ∧ Only [] w' w'') :
    Calls Tryd.prog 61 #[.slice A us.length ca, .slice B vs.length cb, .func (.func f) #[] #[]] w fun r w' => r = .returned (.bool (alikeG p us vs)) ∧ Only [] w w' := by
  have hlA := hA.len
  have hlB := hB.len
  have HA := Lib.hid hA
  have HB := Lib.hid hB
  have HF := Lib.hid hf
  clear hA hB hf
  by_cases hl : us.length = vs.length
  · have e1 : ((us.length : Int) != (vs.length : Int)) = false := by simp [hl]
    have HL := Lib.hid hl
    rw [hl] at hlA e1 ⊢
    go_enter Tryd.func61, Tryd.ntmps61
    go_wp2_with (fail)
    go_loopw [15] (fun i wr => ∃ k : Nat, i = .int .i64 k ∧ k ≤ vs.length ∧ Hid (alikeG p (us.take k) (vs.take k) = true) ∧ Hid (Only [] w wr)) (fun i _ => vs.length - (intOf i).toNat)
    case atStart => exact ⟨0, rfl, Nat.zero_le _, Lib.hid (by simp [alikeG]), Lib.hid (Only.refl _ _)⟩
    case round =>
      obtain ⟨k, rfl, hk, HP, HOr⟩ := hrel
      by_cases hlt : k < vs.length
      · obtain ⟨x, hx⟩ : ∃ e, us[k]? = some e := ⟨_, List.getElem?_eq_getElem (by have := HL.out; omega)⟩
        obtain ⟨y, hy⟩ : ∃ e, vs[k]? = some e := ⟨_, List.getElem?_eq_getElem hlt⟩
        have hmx : x ∈ us := List.mem_of_getElem? hx
        have hmy : y ∈ vs := List.mem_of_getElem? hy
        have HLx := Lib.hid (Em.Li.keep _ _ _ (HA.out.sub x hmx) HOr.out)
        have HLy := Lib.hid (Em.Li.keep _ _ _ (HB.out.sub y hmy) HOr.out)
        have hcall := HF.out x hmx y hmy
        have HTK := Lib.hid (alikeG_take (p := p) HL.out hx hy)
        have HBAD := Lib.hid (alikeG_bad (p := p) hx hy)
        have hrx := (HA.out.row k _ hx).keep HOr.out
        have hry := (HB.out.row k _ hy).keep HOr.out
        obtain ⟨pe, hpe⟩ : ∃ pe, p x y = pe := ⟨_, rfl⟩
        rw [hpe] at hcall HTK HBAD
        obtain ⟨xp, xeo, xen, xes, xeu, xeA, xec, xel, xiA, xic, xil⟩ := x
        obtain ⟨yp, yeo, yen, yes, yeu, yeA, yec, yel, yiA, yic, yil⟩ := y
        obtain ⟨ba, oa, rfl, hba, c0, c1, c2, c3, c4, c5, c6⟩ := Em.at_cells hrx
        obtain ⟨bb, ob, rfl, hbb, d0, d1, d2, d3, d4, d5, d6⟩ := Em.at_cells hry
        have HCX := Lib.hid (show ba < wr.heap.size ∧ wr.cell? ⟨ba, oa + k * 7, none⟩ = some (.string xp) ∧ wr.cell? ⟨ba, oa + k * 7 + 1, none⟩ = some (.int .i64 xeo) ∧ wr.cell? ⟨ba, oa + k * 7 + 2, none⟩ = some (.int .i64 xen) ∧ wr.cell? ⟨ba, oa + k * 7 + 3, none⟩ = some (.string xes) ∧ wr.cell? ⟨ba, oa + k * 7 + 4, none⟩ = some (.string xeu) ∧ wr.cell? ⟨ba, oa + k * 7 + 5, none⟩ = some (.slice xeA xel.length xec) ∧ wr.cell? ⟨ba, oa + k * 7 + 6, none⟩ = some (.slice xiA xil.length xic) from ⟨hba, c0, c1, c2, c3, c4, c5, c6⟩)
        have HCY := Lib.hid (show bb < wr.heap.size ∧ wr.cell? ⟨bb, ob + k * 7, none⟩ = some (.string yp) ∧ wr.cell? ⟨bb, ob + k * 7 + 1, none⟩ = some (.int .i64 yeo) ∧ wr.cell? ⟨bb, ob + k * 7 + 2, none⟩ = some (.int .i64 yen) ∧ wr.cell? ⟨bb, ob + k * 7 + 3, none⟩ = some (.string yes) ∧ wr.cell? ⟨bb, ob + k * 7 + 4, none⟩ = some (.string yeu) ∧ wr.cell? ⟨bb, ob + k * 7 + 5, none⟩ = some (.slice yeA yel.length yec) ∧ wr.cell? ⟨bb, ob + k * 7 + 6, none⟩ = some (.slice yiA yil.length yic) from ⟨hbb, d0, d1, d2, d3, d4, d5, d6⟩)
        have HCA := Lib.hid (show ∀ w', Only [] wr w' → Calls Tryd.prog f #[.agg #[.string xp, .int .i64 xeo, .int .i64 xen, .string xes, .string xeu, .slice xeA xel.length xec, .slice xiA xil.length xic], .agg #[.string yp, .int .i64 yeo, .int .i64 yen, .string yes, .string yeu, .slice yeA yel.length yec, .slice yiA yil.length yic]] w' fun r w'' => r = .returned (.bool pe) ∧ Only [] w' w'' from fun w' o => hcall w' (Em.Li.keep _ _ _ HLx.out o) (Em.Li.keep _ _ _ HLy.out o))
        have hki : (0 : Int) ≤ (k : Int) := by omega
        have hki2 : (k : Int) < (vs.length : Int) := by omega
        clear hx hy hmx hmy hcall hrx hry hpe c0 c1 c2 c3 c4 c5 c6 d0 d1 d2 d3 d4 d5 d6 hba hbb
        obtain ⟨wq, hwq⟩ : ∃ wq : World, wq = wr := ⟨_, rfl⟩
        subst hwq
        go_wp2_with (fail)
        refine (wpIn_wide (n := 9)).1 ?_
        refine wpIn_region_relR 11 (Only []) (fr := ?frk6) (tl := ?tlk6) (fun iq v wv => match iq with
          | 0 => v = .func (.func f) #[] #[]
          | 1 => v = .slice (some ⟨ba, oa, none⟩) vs.length ca
          | 2 => v = .int .i64 (k : Int)
          | 3 => v = .pointer (some ⟨ba, oa + k * 7, none⟩)
          | 4 => v = .agg #[.string xp, .int .i64 xeo, .int .i64 xen, .string xes, .string xeu, .slice xeA xel.length xec, .slice xiA xil.length xic]
          | 5 => v = .slice (some ⟨bb, ob, none⟩) vs.length cb
          | 6 => v = .int .i64 (k : Int)
          | 7 => v = .pointer (some ⟨bb, ob + k * 7, none⟩)
          | 8 => v = .agg #[.string yp, .int .i64 yeo, .int .i64 yen, .string yes, .string yeu, .slice yeA yel.length yec, .slice yiA yil.length yic]
          | 9 => v = .bool pe
          | 10 => v = .bool !pe
          | _ => True) (.inl rfl) (by kernel_rfl) (by kernel_rfl) (by kernel_rfl) (by kernel_rfl) (by kernel_rfl) (by kernel_rfl) (by decide) ?htlk6 ?hfrk6 (Only.refl _ _) (fun _ _ _ h k => h.trans k (fun _ hx => .inl hx)) ?stabk6 ?stepsk6 ?donek6
        case htlk6 => simp only [List.drop_succ_cons, List.drop_zero]; rfl
        case hfrk6 => intro vals; simp only [putAll, dstAt, Act.put, List.getElem?_toArray, List.getElem?_cons_zero, List.getElem?_cons_succ, Option.bind_some, List.setIfInBounds_toArray, List.set_cons_zero, List.set_cons_succ]; rfl
        case stabk6 =>
          intro i v wa wb h
          try dsimp only
          split <;> first | exact id
        case stepsk6 =>
          refine ⟨?_, ?_, ?_, ?_, ?_, ?_, ?_, ?_, ?_, ?_, ?_, trivial⟩
          · intro vals wr hR hp K hK
            dsimp only at hK ⊢
            clear hp
            unfold RunsOp
            go_simp
            exact hK.out _ _ ⟨_, rfl, Only.refl _ _, rfl⟩
          · intro vals wr hR hp K hK
            dsimp only at hK ⊢
            clear hp
            unfold RunsOp
            go_simp
            exact hK.out _ _ ⟨_, rfl, Only.refl _ _, rfl⟩
          · intro vals wr hR hp K hK
            dsimp only at hK ⊢
            clear hp
            unfold RunsOp
            go_simp
            exact hK.out _ _ ⟨_, rfl, Only.refl _ _, rfl⟩
          · intro vals wr hR hp K hK
            dsimp only at hK ⊢
            obtain ⟨p1, p2, -⟩ := hp
            replace p1 := p1 rfl
            replace p2 := p2 rfl
            dsimp only at p1 p2
            rw [p1, p2] at hK ⊢
            clear p1 p2
            unfold RunsOp
            go_simp
            exact hK.out _ _ ⟨_, rfl, Only.refl _ _, rfl⟩
          · intro vals wr hR hp K hK
            dsimp only at hK ⊢
            obtain ⟨p3, -⟩ := hp
            replace p3 := p3 rfl
            dsimp only at p3
            rw [p3] at hK ⊢
            clear p3
            unfold RunsOp
            have q0 := (hR.cell (p := ⟨ba, oa + k * 7, none⟩) HCX.out.1 (by simp)).trans HCX.out.2.1
            have q1 := (hR.cell (p := ⟨ba, oa + k * 7 + 1, none⟩) HCX.out.1 (by simp)).trans HCX.out.2.2.1
            have q2 := (hR.cell (p := ⟨ba, oa + k * 7 + 2, none⟩) HCX.out.1 (by simp)).trans HCX.out.2.2.2.1
            have q3 := (hR.cell (p := ⟨ba, oa + k * 7 + 3, none⟩) HCX.out.1 (by simp)).trans HCX.out.2.2.2.2.1
            have q4 := (hR.cell (p := ⟨ba, oa + k * 7 + 4, none⟩) HCX.out.1 (by simp)).trans HCX.out.2.2.2.2.2.1
            have q5 := (hR.cell (p := ⟨ba, oa + k * 7 + 5, none⟩) HCX.out.1 (by simp)).trans HCX.out.2.2.2.2.2.2.1
            have q6 := (hR.cell (p := ⟨ba, oa + k * 7 + 6, none⟩) HCX.out.1 (by simp)).trans HCX.out.2.2.2.2.2.2.2
            go_simp
            exact hK.out _ _ ⟨_, rfl, Only.refl _ _, rfl⟩
          · intro vals wr hR hp K hK
            dsimp only at hK ⊢
            clear hp
            unfold RunsOp
            go_simp
            exact hK.out _ _ ⟨_, rfl, Only.refl _ _, rfl⟩
          · intro vals wr hR hp K hK
            dsimp only at hK ⊢
            clear hp
            unfold RunsOp
            go_simp
            exact hK.out _ _ ⟨_, rfl, Only.refl _ _, rfl⟩
          · intro vals wr hR hp K hK
            dsimp only at hK ⊢
            obtain ⟨p5, p6, -⟩ := hp
            replace p5 := p5 rfl
            replace p6 := p6 rfl
            dsimp only at p5 p6
            rw [p5, p6] at hK ⊢
            clear p5 p6
            unfold RunsOp
            go_simp
            exact hK.out _ _ ⟨_, rfl, Only.refl _ _, rfl⟩
          · intro vals wr hR hp K hK
            dsimp only at hK ⊢
            obtain ⟨p7, -⟩ := hp
            replace p7 := p7 rfl
            dsimp only at p7
            rw [p7] at hK ⊢
            clear p7
            unfold RunsOp
            have q0 := (hR.cell (p := ⟨bb, ob + k * 7, none⟩) HCY.out.1 (by simp)).trans HCY.out.2.1
            have q1 := (hR.cell (p := ⟨bb, ob + k * 7 + 1, none⟩) HCY.out.1 (by simp)).trans HCY.out.2.2.1
            have q2 := (hR.cell (p := ⟨bb, ob + k * 7 + 2, none⟩) HCY.out.1 (by simp)).trans HCY.out.2.2.2.1
            have q3 := (hR.cell (p := ⟨bb, ob + k * 7 + 3, none⟩) HCY.out.1 (by simp)).trans HCY.out.2.2.2.2.1
            have q4 := (hR.cell (p := ⟨bb, ob + k * 7 + 4, none⟩) HCY.out.1 (by simp)).trans HCY.out.2.2.2.2.2.1
            have q5 := (hR.cell (p := ⟨bb, ob + k * 7 + 5, none⟩) HCY.out.1 (by simp)).trans HCY.out.2.2.2.2.2.2.1
            have q6 := (hR.cell (p := ⟨bb, ob + k * 7 + 6, none⟩) HCY.out.1 (by simp)).trans HCY.out.2.2.2.2.2.2.2
            go_simp
            exact hK.out _ _ ⟨_, rfl, Only.refl _ _, rfl⟩
          · intro vals wr hR hp K hK
            dsimp only at hK ⊢
            obtain ⟨p0, p4, p8, -⟩ := hp
            replace p0 := p0 rfl
            replace p4 := p4 rfl
            replace p8 := p8 rfl
            dsimp only at p0 p4 p8
            rw [p0, p4, p8] at hK ⊢
            clear p0 p4 p8
            unfold RunsOp
            go_simp
            refine (HCA.out _ ((Only.refl [] _).drew.trans hR (by simp))).mono ?_
            rintro e' w2 ⟨rfl, o2⟩
            exact hK.out _ _ ⟨_, rfl, o2, rfl⟩
          · intro vals wr hR hp K hK
            dsimp only at hK ⊢
            obtain ⟨p9, -⟩ := hp
            replace p9 := p9 rfl
            dsimp only at p9
            rw [p9] at hK ⊢
            clear p9
            unfold RunsOp
            go_simp
            exact hK.out _ _ ⟨_, rfl, Only.refl _ _, rfl⟩
        case donek6 =>
          intro vals wd hR hF
          have f0 : vals 0 = .func (.func f) #[] #[] := hF 0 (by decide)
          have f1 : vals 1 = .slice (some ⟨ba, oa, none⟩) vs.length ca := hF 1 (by decide)
          have f2 : vals 2 = .int .i64 (k : Int) := hF 2 (by decide)
          have f3 : vals 3 = .pointer (some ⟨ba, oa + k * 7, none⟩) := hF 3 (by decide)
          have f4 : vals 4 = .agg #[.string xp, .int .i64 xeo, .int .i64 xen, .string xes, .string xeu, .slice xeA xel.length xec, .slice xiA xil.length xic] := hF 4 (by decide)
          have f5 : vals 5 = .slice (some ⟨bb, ob, none⟩) vs.length cb := hF 5 (by decide)
          have f6 : vals 6 = .int .i64 (k : Int) := hF 6 (by decide)
          have f7 : vals 7 = .pointer (some ⟨bb, ob + k * 7, none⟩) := hF 7 (by decide)
          have f8 : vals 8 = .agg #[.string yp, .int .i64 yeo, .int .i64 yen, .string yes, .string yeu, .slice yeA yel.length yec, .slice yiA yil.length yic] := hF 8 (by decide)
          have f9 : vals 9 = .bool pe := hF 9 (by decide)
          have f10 : vals 10 = .bool !pe := hF 10 (by decide)
          rw [f0, f1, f2, f3, f4, f5, f6, f7, f8, f9, f10]
          clear f0 f1 f2 f3 f4 f5 f6 f7 f8 f9 f10
          have HO5 := Lib.hid (HOr.out.trans ((Only.refl [] _).drew.trans hR (by simp)) (by simp))
          clear hR hF
          gi_wp2_with (fail)
          cases pe with
          | true =>
            go_wp2_with (fail)
            go_roundw
            case rel => exact ⟨k + 1, by go_num, by omega, Lib.hid (by rw [HTK.out, HP.out]; rfl), HO5⟩
            case measure => simp [intOf] <;> omega
          | false =>
            go_wp2_with (fail)
            go_ret
            exact ⟨by rw [HBAD.out (by first | rfl | trivial)]; rfl, HO5.out⟩
      · obtain rfl : k = vs.length := by omega
        go_wp2_with (fail)
        go_ret
        exact ⟨by have := HP.out; rw [List.take_length, List.take_of_length_le (by have := HL.out; omega)] at this; rw [this]; rfl, HOr.out⟩
  · have e1 : ((us.length : Int) != (vs.length : Int)) = true := by simp; omega
    have HE := Lib.hid (alikeG_len (p := p) hl)
    clear hl
    go_enter Tryd.func61, Tryd.ntmps61
    go_wp2_with (fail)
    go_ret
    exact ⟨by rw [HE.out]; rfl, Only.refl _ _⟩
set_option maxHeartbeats 4000000 in
theorem alike_Pa (f : Nat) (p : Pa → Pa → Bool) (eg : ∀ args w, (callFunc f args).run Tryd.prog w = .ok (.enter f args) w) {A B : Option Addr} {ca cb : Nat} {us vs : List Pa} {w : World} (hA : RowX Pa.cs 2 Pa.Li w A us) (hB : RowX Pa.cs 2 Pa.Li w B vs)
    (hf : ∀ a, a ∈ us → ∀ b, b ∈ vs → ∀ w', Pa.Li w' a → Pa.Li w' b → Calls Tryd.prog f #[a.val, b.val] w' fun r w'' => r = .returned (.bool (p a b)) ∧ Only [] w' w'') :
    Calls Tryd.prog 63 #[.slice A us.length ca, .slice B vs.length cb, .func (.func f) #[] #[]] w fun r w' => r = .returned (.bool (alikeG p us vs)) ∧ Only [] w w' := by
  have hlA := hA.len
  have hlB := hB.len
  have HA := Lib.hid hA
  have HB := Lib.hid hB
  have HF := Lib.hid hf
  clear hA hB hf
  by_cases hl : us.length = vs.length
  · have e1 : ((us.length : Int) != (vs.length : Int)) = false := by simp [hl]
    have HL := Lib.hid hl
    rw [hl] at hlA e1 ⊢
    go_enter Tryd.func63, Tryd.ntmps63
    go_wp2_with (fail)
    go_loopw [15] (fun i wr => ∃ k : Nat, i = .int .i64 k ∧ k ≤ vs.length ∧ Hid (alikeG p (us.take k) (vs.take k) = true) ∧ Hid (Only [] w wr)) (fun i _ => vs.length - (intOf i).toNat)
    case atStart => exact ⟨0, rfl, Nat.zero_le _, Lib.hid (by simp [alikeG]), Lib.hid (Only.refl _ _)⟩
    case round =>
      obtain ⟨k, rfl, hk, HP, HOr⟩ := hrel
      by_cases hlt : k < vs.length
      · obtain ⟨x, hx⟩ : ∃ e, us[k]? = some e := ⟨_, List.getElem?_eq_getElem (by have := HL.out; omega)⟩
        obtain ⟨y, hy⟩ : ∃ e, vs[k]? = some e := ⟨_, List.getElem?_eq_getElem hlt⟩
        have hmx : x ∈ us := List.mem_of_getElem? hx
        have hmy : y ∈ vs := List.mem_of_getElem? hy
        have HLx := Lib.hid (Pa.Li.keep _ _ _ (HA.out.sub x hmx) HOr.out)
        have HLy := Lib.hid (Pa.Li.keep _ _ _ (HB.out.sub y hmy) HOr.out)
        have hcall := HF.out x hmx y hmy
        have HTK := Lib.hid (alikeG_take (p := p) HL.out hx hy)
        have HBAD := Lib.hid (alikeG_bad (p := p) hx hy)
        have hrx := (HA.out.row k _ hx).keep HOr.out
        have hry := (HB.out.row k _ hy).keep HOr.out
        obtain ⟨pe, hpe⟩ : ∃ pe, p x y = pe := ⟨_, rfl⟩
        rw [hpe] at hcall HTK HBAD
        obtain ⟨xn, xm⟩ := x
        obtain ⟨yn, ym⟩ := y
        obtain ⟨ba, oa, rfl, hba, c0, c1⟩ := Pa.at_cells hrx
        obtain ⟨bb, ob, rfl, hbb, d0, d1⟩ := Pa.at_cells hry
        have HCX := Lib.hid (show ba < wr.heap.size ∧ wr.cell? ⟨ba, oa + k * 2, none⟩ = some (.string xn) ∧ wr.cell? ⟨ba, oa + k * 2 + 1, none⟩ = some (.string xm) from ⟨hba, c0, c1⟩)
        have HCY := Lib.hid (show bb < wr.heap.size ∧ wr.cell? ⟨bb, ob + k * 2, none⟩ = some (.string yn) ∧ wr.cell? ⟨bb, ob + k * 2 + 1, none⟩ = some (.string ym) from ⟨hbb, d0, d1⟩)
        have HCA := Lib.hid (show ∀ w', Only [] wr w' → Calls Tryd.prog f #[.agg #[.string xn, .string xm], .agg #[.string yn, .string ym]] w' fun r w'' => r = .returned (.bool pe) ∧ Only [] w' w'' from fun w' o => hcall w' (Pa.Li.keep _ _ _ HLx.out o) (Pa.Li.keep _ _ _ HLy.out o))
        have hki : (0 : Int) ≤ (k : Int) := by omega
        have hki2 : (k : Int) < (vs.length : Int) := by omega
        clear hx hy hmx hmy hcall hrx hry hpe c0 c1 d0 d1 hba hbb
        obtain ⟨wq, hwq⟩ : ∃ wq : World, wq = wr := ⟨_, rfl⟩
        subst hwq
        go_wp2_with (fail)
        refine (wpIn_wide (n := 9)).1 ?_
        refine wpIn_region_relR 11 (Only []) (fr := ?frk6) (tl := ?tlk6) (fun iq v wv => match iq with
          | 0 => v = .func (.func f) #[] #[]
          | 1 => v = .slice (some ⟨ba, oa, none⟩) vs.length ca
          | 2 => v = .int .i64 (k : Int)
          | 3 => v = .pointer (some ⟨ba, oa + k * 2, none⟩)
          | 4 => v = .agg #[.string xn, .string xm]
          | 5 => v = .slice (some ⟨bb, ob, none⟩) vs.length cb
          | 6 => v = .int .i64 (k : Int)
          | 7 => v = .pointer (some ⟨bb, ob + k * 2, none⟩)
          | 8 => v = .agg #[.string yn, .string ym]
          | 9 => v = .bool pe
          | 10 => v = .bool !pe
          | _ => True) (.inl rfl) (by kernel_rfl) (by kernel_rfl) (by kernel_rfl) (by kernel_rfl) (by kernel_rfl) (by kernel_rfl) (by decide) ?htlk6 ?hfrk6 (Only.refl _ _) (fun _ _ _ h k => h.trans k (fun _ hx => .inl hx)) ?stabk6 ?stepsk6 ?donek6
        case htlk6 => simp only [List.drop_succ_cons, List.drop_zero]; rfl
        case hfrk6 => intro vals; simp only [putAll, dstAt, Act.put, List.getElem?_toArray, List.getElem?_cons_zero, List.getElem?_cons_succ, Option.bind_some, List.setIfInBounds_toArray, List.set_cons_zero, List.set_cons_succ]; rfl
        case stabk6 =>
          intro i v wa wb h
          try dsimp only
          split <;> first | exact id
        case stepsk6 =>
          refine ⟨?_, ?_, ?_, ?_, ?_, ?_, ?_, ?_, ?_, ?_, ?_, trivial⟩
          · intro vals wr hR hp K hK
            dsimp only at hK ⊢
            clear hp
            unfold RunsOp
            go_simp
            exact hK.out _ _ ⟨_, rfl, Only.refl _ _, rfl⟩
          · intro vals wr hR hp K hK
            dsimp only at hK ⊢
            clear hp
            unfold RunsOp
            go_simp
            exact hK.out _ _ ⟨_, rfl, Only.refl _ _, rfl⟩
          · intro vals wr hR hp K hK
            dsimp only at hK ⊢
            clear hp
            unfold RunsOp
            go_simp
            exact hK.out _ _ ⟨_, rfl, Only.refl _ _, rfl⟩
          · intro vals wr hR hp K hK
            dsimp only at hK ⊢
            obtain ⟨p1, p2, -⟩ := hp
            replace p1 := p1 rfl
            replace p2 := p2 rfl
            dsimp only at p1 p2
            rw [p1, p2] at hK ⊢
            clear p1 p2
            unfold RunsOp
            go_simp
            exact hK.out _ _ ⟨_, rfl, Only.refl _ _, rfl⟩
          · intro vals wr hR hp K hK
            dsimp only at hK ⊢
            obtain ⟨p3, -⟩ := hp
            replace p3 := p3 rfl
            dsimp only at p3
            rw [p3] at hK ⊢
            clear p3
            unfold RunsOp
            have q0 := (hR.cell (p := ⟨ba, oa + k * 2, none⟩) HCX.out.1 (by simp)).trans HCX.out.2.1
            have q1 := (hR.cell (p := ⟨ba, oa + k * 2 + 1, none⟩) HCX.out.1 (by simp)).trans HCX.out.2.2
            go_simp
            exact hK.out _ _ ⟨_, rfl, Only.refl _ _, rfl⟩
          · intro vals wr hR hp K hK
            dsimp only at hK ⊢
            clear hp
            unfold RunsOp
            go_simp
            exact hK.out _ _ ⟨_, rfl, Only.refl _ _, rfl⟩
          · intro vals wr hR hp K hK
            dsimp only at hK ⊢
            clear hp
            unfold RunsOp
            go_simp
            exact hK.out _ _ ⟨_, rfl, Only.refl _ _, rfl⟩
          · intro vals wr hR hp K hK
            dsimp only at hK ⊢
            obtain ⟨p5, p6, -⟩ := hp
            replace p5 := p5 rfl
            replace p6 := p6 rfl
            dsimp only at p5 p6
            rw [p5, p6] at hK ⊢
            clear p5 p6
            unfold RunsOp
            go_simp
            exact hK.out _ _ ⟨_, rfl, Only.refl _ _, rfl⟩
          · intro vals wr hR hp K hK
            dsimp only at hK ⊢
            obtain ⟨p7, -⟩ := hp
            replace p7 := p7 rfl
            dsimp only at p7
            rw [p7] at hK ⊢
            clear p7
            unfold RunsOp
            have q0 := (hR.cell (p := ⟨bb, ob + k * 2, none⟩) HCY.out.1 (by simp)).trans HCY.out.2.1
            have q1 := (hR.cell (p := ⟨bb, ob + k * 2 + 1, none⟩) HCY.out.1 (by simp)).trans HCY.out.2.2
            go_simp
            exact hK.out _ _ ⟨_, rfl, Only.refl _ _, rfl⟩
          · intro vals wr hR hp K hK
            dsimp only at hK ⊢
            obtain ⟨p0, p4, p8, -⟩ := hp
            replace p0 := p0 rfl
            replace p4 := p4 rfl
            replace p8 := p8 rfl
            dsimp only at p0 p4 p8
            rw [p0, p4, p8] at hK ⊢
            clear p0 p4 p8
            unfold RunsOp
            go_simp
            refine (HCA.out _ ((Only.refl [] _).drew.trans hR (by simp))).mono ?_
            rintro e' w2 ⟨rfl, o2⟩
            exact hK.out _ _ ⟨_, rfl, o2, rfl⟩
          · intro vals wr hR hp K hK
            dsimp only at hK ⊢
            obtain ⟨p9, -⟩ := hp
            replace p9 := p9 rfl
            dsimp only at p9
            rw [p9] at hK ⊢
            clear p9
            unfold RunsOp
            go_simp
            exact hK.out _ _ ⟨_, rfl, Only.refl _ _, rfl⟩
        case donek6 =>
          intro vals wd hR hF
          have f0 : vals 0 = .func (.func f) #[] #[] := hF 0 (by decide)
          have f1 : vals 1 = .slice (some ⟨ba, oa, none⟩) vs.length ca := hF 1 (by decide)
          have f2 : vals 2 = .int .i64 (k : Int) := hF 2 (by decide)
          have f3 : vals 3 = .pointer (some ⟨ba, oa + k * 2, none⟩) := hF 3 (by decide)
          have f4 : vals 4 = .agg #[.string xn, .string xm] := hF 4 (by decide)
          have f5 : vals 5 = .slice (some ⟨bb, ob, none⟩) vs.length cb := hF 5 (by decide)
          have f6 : vals 6 = .int .i64 (k : Int) := hF 6 (by decide)
          have f7 : vals 7 = .pointer (some ⟨bb, ob + k * 2, none⟩) := hF 7 (by decide)
          have f8 : vals 8 = .agg #[.string yn, .string ym] := hF 8 (by decide)
          have f9 : vals 9 = .bool pe := hF 9 (by decide)
          have f10 : vals 10 = .bool !pe := hF 10 (by decide)
          rw [f0, f1, f2, f3, f4, f5, f6, f7, f8, f9, f10]
          clear f0 f1 f2 f3 f4 f5 f6 f7 f8 f9 f10
          have HO5 := Lib.hid (HOr.out.trans ((Only.refl [] _).drew.trans hR (by simp)) (by simp))
          clear hR hF
          gi_wp2_with (fail)
          cases pe with
          | true =>
            go_wp2_with (fail)
            go_roundw
            case rel => exact ⟨k + 1, by go_num, by omega, Lib.hid (by rw [HTK.out, HP.out]; rfl), HO5⟩
            case measure => simp [intOf] <;> omega
          | false =>
            go_wp2_with (fail)
            go_ret
            exact ⟨by rw [HBAD.out (by first | rfl | trivial)]; rfl, HO5.out⟩
      · obtain rfl : k = vs.length := by omega
        go_wp2_with (fail)
        go_ret
        exact ⟨by have := HP.out; rw [List.take_length, List.take_of_length_le (by have := HL.out; omega)] at this; rw [this]; rfl, HOr.out⟩
  · have e1 : ((us.length : Int) != (vs.length : Int)) = true := by simp; omega
    have HE := Lib.hid (alikeG_len (p := p) hl)
    clear hl
    go_enter Tryd.func63, Tryd.ntmps63
    go_wp2_with (fail)
    go_ret
    exact ⟨by rw [HE.out]; rfl, Only.refl _ _⟩
set_option maxHeartbeats 4000000 in
theorem alike_Lk (f : Nat) (p : Lk → Lk → Bool) (eg : ∀ args w, (callFunc f args).run Tryd.prog w = .ok (.enter f args) w) {A B : Option Addr} {ca cb : Nat} {us vs : List Lk} {w : World} (hA : RowX Lk.cs 4 Lk.Li w A us) (hB : RowX Lk.cs 4 Lk.Li w B vs)
    (hf : ∀ a, a ∈ us → ∀ b, b ∈ vs → ∀ w', Lk.Li w' a → Lk.Li w' b → Calls Tryd.prog f #[a.val, b.val] w' fun r w'' => r = .returned (.bool (p a b)) ∧ Only [] w' w'') :
    Calls Tryd.prog 65 #[.slice A us.length ca, .slice B vs.length cb, .func (.func f) #[] #[]] w fun r w' => r = .returned (.bool (alikeG p us vs)) ∧ Only [] w w' := by
  have hlA := hA.len
  have hlB := hB.len
  have HA := Lib.hid hA
  have HB := Lib.hid hB
  have HF := Lib.hid hf
  clear hA hB hf
  by_cases hl : us.length = vs.length
  · have e1 : ((us.length : Int) != (vs.length : Int)) = false := by simp [hl]
    have HL := Lib.hid hl
    rw [hl] at hlA e1 ⊢
    go_enter Tryd.func65, Tryd.ntmps65
    go_wp2_with (fail)
    go_loopw [15] (fun i wr => ∃ k : Nat, i = .int .i64 k ∧ k ≤ vs.length ∧ Hid (alikeG p (us.take k) (vs.take k) = true) ∧ Hid (Only [] w wr)) (fun i _ => vs.length - (intOf i).toNat)
    case atStart => exact ⟨0, rfl, Nat.zero_le _, Lib.hid (by simp [alikeG]), Lib.hid (Only.refl _ _)⟩
    case round =>
      obtain ⟨k, rfl, hk, HP, HOr⟩ := hrel
      by_cases hlt : k < vs.length
      · obtain ⟨x, hx⟩ : ∃ e, us[k]? = some e := ⟨_, List.getElem?_eq_getElem (by have := HL.out; omega)⟩
        obtain ⟨y, hy⟩ : ∃ e, vs[k]? = some e := ⟨_, List.getElem?_eq_getElem hlt⟩
        have hmx : x ∈ us := List.mem_of_getElem? hx
        have hmy : y ∈ vs := List.mem_of_getElem? hy
        have HLx := Lib.hid (Lk.Li.keep _ _ _ (HA.out.sub x hmx) HOr.out)
        have HLy := Lib.hid (Lk.Li.keep _ _ _ (HB.out.sub y hmy) HOr.out)
        have hcall := HF.out x hmx y hmy
        have HTK := Lib.hid (alikeG_take (p := p) HL.out hx hy)
        have HBAD := Lib.hid (alikeG_bad (p := p) hx hy)
        have hrx := (HA.out.row k _ hx).keep HOr.out
        have hry := (HB.out.row k _ hy).keep HOr.out
        obtain ⟨pe, hpe⟩ : ∃ pe, p x y = pe := ⟨_, rfl⟩
        rw [hpe] at hcall HTK HBAD
        obtain ⟨xa, xb, xc, xd⟩ := x
        obtain ⟨ya, yb, yc, yd⟩ := y
        obtain ⟨ba, oa, rfl, hba, c0, c1, c2, c3⟩ := Lk.at_cells hrx
        obtain ⟨bb, ob, rfl, hbb, d0, d1, d2, d3⟩ := Lk.at_cells hry
        have HCX := Lib.hid (show ba < wr.heap.size ∧ wr.cell? ⟨ba, oa + k * 4, none⟩ = some (.string xa) ∧ wr.cell? ⟨ba, oa + k * 4 + 1, none⟩ = some (.string xb) ∧ wr.cell? ⟨ba, oa + k * 4 + 2, none⟩ = some (.string xc) ∧ wr.cell? ⟨ba, oa + k * 4 + 3, none⟩ = some (.string xd) from ⟨hba, c0, c1, c2, c3⟩)
        have HCY := Lib.hid (show bb < wr.heap.size ∧ wr.cell? ⟨bb, ob + k * 4, none⟩ = some (.string ya) ∧ wr.cell? ⟨bb, ob + k * 4 + 1, none⟩ = some (.string yb) ∧ wr.cell? ⟨bb, ob + k * 4 + 2, none⟩ = some (.string yc) ∧ wr.cell? ⟨bb, ob + k * 4 + 3, none⟩ = some (.string yd) from ⟨hbb, d0, d1, d2, d3⟩)
        have HCA := Lib.hid (show ∀ w', Only [] wr w' → Calls Tryd.prog f #[.agg #[.string xa, .string xb, .string xc, .string xd], .agg #[.string ya, .string yb, .string yc, .string yd]] w' fun r w'' => r = .returned (.bool pe) ∧ Only [] w' w'' from fun w' o => hcall w' (Lk.Li.keep _ _ _ HLx.out o) (Lk.Li.keep _ _ _ HLy.out o))
        have hki : (0 : Int) ≤ (k : Int) := by omega
        have hki2 : (k : Int) < (vs.length : Int) := by omega
        clear hx hy hmx hmy hcall hrx hry hpe c0 c1 c2 c3 d0 d1 d2 d3 hba hbb
        obtain ⟨wq, hwq⟩ : ∃ wq : World, wq = wr := ⟨_, rfl⟩
        subst hwq
        go_wp2_with (fail)
        refine (wpIn_wide (n := 9)).1 ?_
        refine wpIn_region_relR 11 (Only []) (fr := ?frk6) (tl := ?tlk6) (fun iq v wv => match iq with
          | 0 => v = .func (.func f) #[] #[]
          | 1 => v = .slice (some ⟨ba, oa, none⟩) vs.length ca
          | 2 => v = .int .i64 (k : Int)
          | 3 => v = .pointer (some ⟨ba, oa + k * 4, none⟩)
          | 4 => v = .agg #[.string xa, .string xb, .string xc, .string xd]
          | 5 => v = .slice (some ⟨bb, ob, none⟩) vs.length cb
          | 6 => v = .int .i64 (k : Int)
          | 7 => v = .pointer (some ⟨bb, ob + k * 4, none⟩)
          | 8 => v = .agg #[.string ya, .string yb, .string yc, .string yd]
          | 9 => v = .bool pe
          | 10 => v = .bool !pe
          | _ => True) (.inl rfl) (by kernel_rfl) (by kernel_rfl) (by kernel_rfl) (by kernel_rfl) (by kernel_rfl) (by kernel_rfl) (by decide) ?htlk6 ?hfrk6 (Only.refl _ _) (fun _ _ _ h k => h.trans k (fun _ hx => .inl hx)) ?stabk6 ?stepsk6 ?donek6
        case htlk6 => simp only [List.drop_succ_cons, List.drop_zero]; rfl
        case hfrk6 => intro vals; simp only [putAll, dstAt, Act.put, List.getElem?_toArray, List.getElem?_cons_zero, List.getElem?_cons_succ, Option.bind_some, List.setIfInBounds_toArray, List.set_cons_zero, List.set_cons_succ]; rfl
        case stabk6 =>
          intro i v wa wb h
          try dsimp only
          split <;> first | exact id
        case stepsk6 =>
          refine ⟨?_, ?_, ?_, ?_, ?_, ?_, ?_, ?_, ?_, ?_, ?_, trivial⟩
          · intro vals wr hR hp K hK
            dsimp only at hK ⊢
            clear hp
            unfold RunsOp
            go_simp
            exact hK.out _ _ ⟨_, rfl, Only.refl _ _, rfl⟩
          · intro vals wr hR hp K hK
            dsimp only at hK ⊢
            clear hp
            unfold RunsOp
            go_simp
            exact hK.out _ _ ⟨_, rfl, Only.refl _ _, rfl⟩
          · intro vals wr hR hp K hK
            dsimp only at hK ⊢
            clear hp
            unfold RunsOp
            go_simp
            exact hK.out _ _ ⟨_, rfl, Only.refl _ _, rfl⟩
          · intro vals wr hR hp K hK
            dsimp only at hK ⊢
            obtain ⟨p1, p2, -⟩ := hp
            replace p1 := p1 rfl
            replace p2 := p2 rfl
            dsimp only at p1 p2
            rw [p1, p2] at hK ⊢
            clear p1 p2
            unfold RunsOp
            go_simp
            exact hK.out _ _ ⟨_, rfl, Only.refl _ _, rfl⟩
          · intro vals wr hR hp K hK
            dsimp only at hK ⊢
            obtain ⟨p3, -⟩ := hp
            replace p3 := p3 rfl
            dsimp only at p3
            rw [p3] at hK ⊢
            clear p3
            unfold RunsOp
            have q0 := (hR.cell (p := ⟨ba, oa + k * 4, none⟩) HCX.out.1 (by simp)).trans HCX.out.2.1
            have q1 := (hR.cell (p := ⟨ba, oa + k * 4 + 1, none⟩) HCX.out.1 (by simp)).trans HCX.out.2.2.1
            have q2 := (hR.cell (p := ⟨ba, oa + k * 4 + 2, none⟩) HCX.out.1 (by simp)).trans HCX.out.2.2.2.1
            have q3 := (hR.cell (p := ⟨ba, oa + k * 4 + 3, none⟩) HCX.out.1 (by simp)).trans HCX.out.2.2.2.2
            go_simp
            exact hK.out _ _ ⟨_, rfl, Only.refl _ _, rfl⟩
          · intro vals wr hR hp K hK
            dsimp only at hK ⊢
            clear hp
            unfold RunsOp
            go_simp
            exact hK.out _ _ ⟨_, rfl, Only.refl _ _, rfl⟩
          · intro vals wr hR hp K hK
            dsimp only at hK ⊢
            clear hp
            unfold RunsOp
            go_simp
            exact hK.out _ _ ⟨_, rfl, Only.refl _ _, rfl⟩
          · intro vals wr hR hp K hK
            dsimp only at hK ⊢
            obtain ⟨p5, p6, -⟩ := hp
            replace p5 := p5 rfl
            replace p6 := p6 rfl
            dsimp only at p5 p6
            rw [p5, p6] at hK ⊢
            clear p5 p6
            unfold RunsOp
            go_simp
            exact hK.out _ _ ⟨_, rfl, Only.refl _ _, rfl⟩
          · intro vals wr hR hp K hK
            dsimp only at hK ⊢
            obtain ⟨p7, -⟩ := hp
            replace p7 := p7 rfl
            dsimp only at p7
            rw [p7] at hK ⊢
            clear p7
            unfold RunsOp
            have q0 := (hR.cell (p := ⟨bb, ob + k * 4, none⟩) HCY.out.1 (by simp)).trans HCY.out.2.1
            have q1 := (hR.cell (p := ⟨bb, ob + k * 4 + 1, none⟩) HCY.out.1 (by simp)).trans HCY.out.2.2.1
            have q2 := (hR.cell (p := ⟨bb, ob + k * 4 + 2, none⟩) HCY.out.1 (by simp)).trans HCY.out.2.2.2.1
            have q3 := (hR.cell (p := ⟨bb, ob + k * 4 + 3, none⟩) HCY.out.1 (by simp)).trans HCY.out.2.2.2.2
            go_simp
            exact hK.out _ _ ⟨_, rfl, Only.refl _ _, rfl⟩
          · intro vals wr hR hp K hK
            dsimp only at hK ⊢
            obtain ⟨p0, p4, p8, -⟩ := hp
            replace p0 := p0 rfl
            replace p4 := p4 rfl
            replace p8 := p8 rfl
            dsimp only at p0 p4 p8
            rw [p0, p4, p8] at hK ⊢
            clear p0 p4 p8
            unfold RunsOp
            go_simp
            refine (HCA.out _ ((Only.refl [] _).drew.trans hR (by simp))).mono ?_
            rintro e' w2 ⟨rfl, o2⟩
            exact hK.out _ _ ⟨_, rfl, o2, rfl⟩
          · intro vals wr hR hp K hK
            dsimp only at hK ⊢
            obtain ⟨p9, -⟩ := hp
            replace p9 := p9 rfl
            dsimp only at p9
            rw [p9] at hK ⊢
            clear p9
            unfold RunsOp
            go_simp
            exact hK.out _ _ ⟨_, rfl, Only.refl _ _, rfl⟩
        case donek6 =>
          intro vals wd hR hF
          have f0 : vals 0 = .func (.func f) #[] #[] := hF 0 (by decide)
          have f1 : vals 1 = .slice (some ⟨ba, oa, none⟩) vs.length ca := hF 1 (by decide)
          have f2 : vals 2 = .int .i64 (k : Int) := hF 2 (by decide)
          have f3 : vals 3 = .pointer (some ⟨ba, oa + k * 4, none⟩) := hF 3 (by decide)
          have f4 : vals 4 = .agg #[.string xa, .string xb, .string xc, .string xd] := hF 4 (by decide)
          have f5 : vals 5 = .slice (some ⟨bb, ob, none⟩) vs.length cb := hF 5 (by decide)
          have f6 : vals 6 = .int .i64 (k : Int) := hF 6 (by decide)
          have f7 : vals 7 = .pointer (some ⟨bb, ob + k * 4, none⟩) := hF 7 (by decide)
          have f8 : vals 8 = .agg #[.string ya, .string yb, .string yc, .string yd] := hF 8 (by decide)
          have f9 : vals 9 = .bool pe := hF 9 (by decide)
          have f10 : vals 10 = .bool !pe := hF 10 (by decide)
          rw [f0, f1, f2, f3, f4, f5, f6, f7, f8, f9, f10]
          clear f0 f1 f2 f3 f4 f5 f6 f7 f8 f9 f10
          have HO5 := Lib.hid (HOr.out.trans ((Only.refl [] _).drew.trans hR (by simp)) (by simp))
          clear hR hF
          gi_wp2_with (fail)
          cases pe with
          | true =>
            go_wp2_with (fail)
            go_roundw
            case rel => exact ⟨k + 1, by go_num, by omega, Lib.hid (by rw [HTK.out, HP.out]; rfl), HO5⟩
            case measure => simp [intOf] <;> omega
          | false =>
            go_wp2_with (fail)
            go_ret
            exact ⟨by rw [HBAD.out (by first | rfl | trivial)]; rfl, HO5.out⟩
      · obtain rfl : k = vs.length := by omega
        go_wp2_with (fail)
        go_ret
        exact ⟨by have := HP.out; rw [List.take_length, List.take_of_length_le (by have := HL.out; omega)] at this; rw [this]; rfl, HOr.out⟩
  · have e1 : ((us.length : Int) != (vs.length : Int)) = true := by simp; omega
    have HE := Lib.hid (alikeG_len (p := p) hl)
    clear hl
    go_enter Tryd.func65, Tryd.ntmps65
    go_wp2_with (fail)
    go_ret
    exact ⟨by rw [HE.out]; rfl, Only.refl _ _⟩
set_option maxHeartbeats 4000000 in
theorem alike_Ac (f : Nat) (p : Ac → Ac → Bool) (eg : ∀ args w, (callFunc f args).run Tryd.prog w = .ok (.enter f args) w) {A B : Option Addr} {ca cb : Nat} {us vs : List Ac} {w : World} (hA : RowX Ac.cs 7 Ac.Li w A us) (hB : RowX Ac.cs 7 Ac.Li w B vs)
    (hf : ∀ a, a ∈ us → ∀ b, b ∈ vs → ∀ w', Ac.Li w' a → Ac.Li w' b → Calls Tryd.prog f #[a.val, b.val] w' fun r w'' => r = .returned (.bool (p a b)) ∧ Only [] w' w'') :
    Calls Tryd.prog 83 #[.slice A us.length ca, .slice B vs.length cb, .func (.func f) #[] #[]] w fun r w' => r = .returned (.bool (alikeG p us vs)) ∧ Only [] w w' := by
  have hlA := hA.len
  have hlB := hB.len
  have HA := Lib.hid hA
  have HB := Lib.hid hB
  have HF := Lib.hid hf
  clear hA hB hf
  by_cases hl : us.length = vs.length
  · have e1 : ((us.length : Int) != (vs.length : Int)) = false := by simp [hl]
    have HL := Lib.hid hl
    rw [hl] at hlA e1 ⊢
    go_enter Tryd.func83, Tryd.ntmps83
    go_wp2_with (fail)
    go_loopw [15] (fun i wr => ∃ k : Nat, i = .int .i64 k ∧ k ≤ vs.length ∧ Hid (alikeG p (us.take k) (vs.take k) = true) ∧ Hid (Only [] w wr)) (fun i _ => vs.length - (intOf i).toNat)
    case atStart => exact ⟨0, rfl, Nat.zero_le _, Lib.hid (by simp [alikeG]), Lib.hid (Only.refl _ _)⟩
    case round =>
      obtain ⟨k, rfl, hk, HP, HOr⟩ := hrel
      by_cases hlt : k < vs.length
      · obtain ⟨x, hx⟩ : ∃ e, us[k]? = some e := ⟨_, List.getElem?_eq_getElem (by have := HL.out; omega)⟩
        obtain ⟨y, hy⟩ : ∃ e, vs[k]? = some e := ⟨_, List.getElem?_eq_getElem hlt⟩
        have hmx : x ∈ us := List.mem_of_getElem? hx
        have hmy : y ∈ vs := List.mem_of_getElem? hy
        have HLx := Lib.hid (Ac.Li.keep _ _ _ (HA.out.sub x hmx) HOr.out)
        have HLy := Lib.hid (Ac.Li.keep _ _ _ (HB.out.sub y hmy) HOr.out)
        have hcall := HF.out x hmx y hmy
        have HTK := Lib.hid (alikeG_take (p := p) HL.out hx hy)
        have HBAD := Lib.hid (alikeG_bad (p := p) hx hy)
        have hrx := (HA.out.row k _ hx).keep HOr.out
        have hry := (HB.out.row k _ hy).keep HOr.out
        obtain ⟨pe, hpe⟩ : ∃ pe, p x y = pe := ⟨_, rfl⟩
        rw [hpe] at hcall HTK HBAD
        obtain ⟨xk, xn, xm, xa, xb, xc, xd⟩ := x
        obtain ⟨yk, yn, ym, ya, yb, yc, yd⟩ := y
        obtain ⟨ba, oa, rfl, hba, c0, c1, c2, c3, c4, c5, c6⟩ := Ac.at_cells hrx
        obtain ⟨bb, ob, rfl, hbb, d0, d1, d2, d3, d4, d5, d6⟩ := Ac.at_cells hry
        have HCX := Lib.hid (show ba < wr.heap.size ∧ wr.cell? ⟨ba, oa + k * 7, none⟩ = some (.int .i64 xk) ∧ wr.cell? ⟨ba, oa + k * 7 + 1, none⟩ = some (.string xn) ∧ wr.cell? ⟨ba, oa + k * 7 + 2, none⟩ = some (.string xm) ∧ wr.cell? ⟨ba, oa + k * 7 + 3, none⟩ = some (.string xa) ∧ wr.cell? ⟨ba, oa + k * 7 + 4, none⟩ = some (.string xb) ∧ wr.cell? ⟨ba, oa + k * 7 + 5, none⟩ = some (.string xc) ∧ wr.cell? ⟨ba, oa + k * 7 + 6, none⟩ = some (.string xd) from ⟨hba, c0, c1, c2, c3, c4, c5, c6⟩)
        have HCY := Lib.hid (show bb < wr.heap.size ∧ wr.cell? ⟨bb, ob + k * 7, none⟩ = some (.int .i64 yk) ∧ wr.cell? ⟨bb, ob + k * 7 + 1, none⟩ = some (.string yn) ∧ wr.cell? ⟨bb, ob + k * 7 + 2, none⟩ = some (.string ym) ∧ wr.cell? ⟨bb, ob + k * 7 + 3, none⟩ = some (.string ya) ∧ wr.cell? ⟨bb, ob + k * 7 + 4, none⟩ = some (.string yb) ∧ wr.cell? ⟨bb, ob + k * 7 + 5, none⟩ = some (.string yc) ∧ wr.cell? ⟨bb, ob + k * 7 + 6, none⟩ = some (.string yd) from ⟨hbb, d0, d1, d2, d3, d4, d5, d6⟩)
        have HCA := Lib.hid (show ∀ w', Only [] wr w' → Calls Tryd.prog f #[.agg #[.int .i64 xk, .string xn, .string xm, .string xa, .string xb, .string xc, .string xd], .agg #[.int .i64 yk, .string yn, .string ym, .string ya, .string yb, .string yc, .string yd]] w' fun r w'' => r = .returned (.bool pe) ∧ Only [] w' w'' from fun w' o => hcall w' (Ac.Li.keep _ _ _ HLx.out o) (Ac.Li.keep _ _ _ HLy.out o))
        have hki : (0 : Int) ≤ (k : Int) := by omega
        have hki2 : (k : Int) < (vs.length : Int) := by omega
        clear hx hy hmx hmy hcall hrx hry hpe c0 c1 c2 c3 c4 c5 c6 d0 d1 d2 d3 d4 d5 d6 hba hbb
        obtain ⟨wq, hwq⟩ : ∃ wq : World, wq = wr := ⟨_, rfl⟩
        subst hwq
        go_wp2_with (fail)
        refine (wpIn_wide (n := 9)).1 ?_
        refine wpIn_region_relR 11 (Only []) (fr := ?frk6) (tl := ?tlk6) (fun iq v wv => match iq with
          | 0 => v = .func (.func f) #[] #[]
          | 1 => v = .slice (some ⟨ba, oa, none⟩) vs.length ca
          | 2 => v = .int .i64 (k : Int)
          | 3 => v = .pointer (some ⟨ba, oa + k * 7, none⟩)
          | 4 => v = .agg #[.int .i64 xk, .string xn, .string xm, .string xa, .string xb, .string xc, .string xd]
          | 5 => v = .slice (some ⟨bb, ob, none⟩) vs.length cb
          | 6 => v = .int .i64 (k : Int)
          | 7 => v = .pointer (some ⟨bb, ob + k * 7, none⟩)
          | 8 => v = .agg #[.int .i64 yk, .string yn, .string ym, .string ya, .string yb, .string yc, .string yd]
          | 9 => v = .bool pe
          | 10 => v = .bool !pe
          | _ => True) (.inl rfl) (by kernel_rfl) (by kernel_rfl) (by kernel_rfl) (by kernel_rfl) (by kernel_rfl) (by kernel_rfl) (by decide) ?htlk6 ?hfrk6 (Only.refl _ _) (fun _ _ _ h k => h.trans k (fun _ hx => .inl hx)) ?stabk6 ?stepsk6 ?donek6
        case htlk6 => simp only [List.drop_succ_cons, List.drop_zero]; rfl
        case hfrk6 => intro vals; simp only [putAll, dstAt, Act.put, List.getElem?_toArray, List.getElem?_cons_zero, List.getElem?_cons_succ, Option.bind_some, List.setIfInBounds_toArray, List.set_cons_zero, List.set_cons_succ]; rfl
        case stabk6 =>
          intro i v wa wb h
          try dsimp only
          split <;> first | exact id
        case stepsk6 =>
          refine ⟨?_, ?_, ?_, ?_, ?_, ?_, ?_, ?_, ?_, ?_, ?_, trivial⟩
          · intro vals wr hR hp K hK
            dsimp only at hK ⊢
            clear hp
            unfold RunsOp
            go_simp
            exact hK.out _ _ ⟨_, rfl, Only.refl _ _, rfl⟩
          · intro vals wr hR hp K hK
            dsimp only at hK ⊢
            clear hp
            unfold RunsOp
            go_simp
            exact hK.out _ _ ⟨_, rfl, Only.refl _ _, rfl⟩
          · intro vals wr hR hp K hK
            dsimp only at hK ⊢
            clear hp
            unfold RunsOp
            go_simp
            exact hK.out _ _ ⟨_, rfl, Only.refl _ _, rfl⟩
          · intro vals wr hR hp K hK
            dsimp only at hK ⊢
            obtain ⟨p1, p2, -⟩ := hp
            replace p1 := p1 rfl
            replace p2 := p2 rfl
            dsimp only at p1 p2
            rw [p1, p2] at hK ⊢
            clear p1 p2
            unfold RunsOp
            go_simp
            exact hK.out _ _ ⟨_, rfl, Only.refl _ _, rfl⟩
          · intro vals wr hR hp K hK
            dsimp only at hK ⊢
            obtain ⟨p3, -⟩ := hp
            replace p3 := p3 rfl
            dsimp only at p3
            rw [p3] at hK ⊢
            clear p3
            unfold RunsOp
            have q0 := (hR.cell (p := ⟨ba, oa + k * 7, none⟩) HCX.out.1 (by simp)).trans HCX.out.2.1
            have q1 := (hR.cell (p := ⟨ba, oa + k * 7 + 1, none⟩) HCX.out.1 (by simp)).trans HCX.out.2.2.1
            have q2 := (hR.cell (p := ⟨ba, oa + k * 7 + 2, none⟩) HCX.out.1 (by simp)).trans HCX.out.2.2.2.1
            have q3 := (hR.cell (p := ⟨ba, oa + k * 7 + 3, none⟩) HCX.out.1 (by simp)).trans HCX.out.2.2.2.2.1
            have q4 := (hR.cell (p := ⟨ba, oa + k * 7 + 4, none⟩) HCX.out.1 (by simp)).trans HCX.out.2.2.2.2.2.1
            have q5 := (hR.cell (p := ⟨ba, oa + k * 7 + 5, none⟩) HCX.out.1 (by simp)).trans HCX.out.2.2.2.2.2.2.1
            have q6 := (hR.cell (p := ⟨ba, oa + k * 7 + 6, none⟩) HCX.out.1 (by simp)).trans HCX.out.2.2.2.2.2.2.2
            go_simp
            exact hK.out _ _ ⟨_, rfl, Only.refl _ _, rfl⟩
          · intro vals wr hR hp K hK
            dsimp only at hK ⊢
            clear hp
            unfold RunsOp
            go_simp
            exact hK.out _ _ ⟨_, rfl, Only.refl _ _, rfl⟩
          · intro vals wr hR hp K hK
            dsimp only at hK ⊢
            clear hp
            unfold RunsOp
            go_simp
            exact hK.out _ _ ⟨_, rfl, Only.refl _ _, rfl⟩
          · intro vals wr hR hp K hK
            dsimp only at hK ⊢
            obtain ⟨p5, p6, -⟩ := hp
            replace p5 := p5 rfl
            replace p6 := p6 rfl
            dsimp only at p5 p6
            rw [p5, p6] at hK ⊢
            clear p5 p6
            unfold RunsOp
            go_simp
            exact hK.out _ _ ⟨_, rfl, Only.refl _ _, rfl⟩
          · intro vals wr hR hp K hK
            dsimp only at hK ⊢
            obtain ⟨p7, -⟩ := hp
            replace p7 := p7 rfl
            dsimp only at p7
            rw [p7] at hK ⊢
            clear p7
            unfold RunsOp
            have q0 := (hR.cell (p := ⟨bb, ob + k * 7, none⟩) HCY.out.1 (by simp)).trans HCY.out.2.1
            have q1 := (hR.cell (p := ⟨bb, ob + k * 7 + 1, none⟩) HCY.out.1 (by simp)).trans HCY.out.2.2.1
            have q2 := (hR.cell (p := ⟨bb, ob + k * 7 + 2, none⟩) HCY.out.1 (by simp)).trans HCY.out.2.2.2.1
            have q3 := (hR.cell (p := ⟨bb, ob + k * 7 + 3, none⟩) HCY.out.1 (by simp)).trans HCY.out.2.2.2.2.1
            have q4 := (hR.cell (p := ⟨bb, ob + k * 7 + 4, none⟩) HCY.out.1 (by simp)).trans HCY.out.2.2.2.2.2.1
            have q5 := (hR.cell (p := ⟨bb, ob + k * 7 + 5, none⟩) HCY.out.1 (by simp)).trans HCY.out.2.2.2.2.2.2.1
            have q6 := (hR.cell (p := ⟨bb, ob + k * 7 + 6, none⟩) HCY.out.1 (by simp)).trans HCY.out.2.2.2.2.2.2.2
            go_simp
            exact hK.out _ _ ⟨_, rfl, Only.refl _ _, rfl⟩
          · intro vals wr hR hp K hK
            dsimp only at hK ⊢
            obtain ⟨p0, p4, p8, -⟩ := hp
            replace p0 := p0 rfl
            replace p4 := p4 rfl
            replace p8 := p8 rfl
            dsimp only at p0 p4 p8
            rw [p0, p4, p8] at hK ⊢
            clear p0 p4 p8
            unfold RunsOp
            go_simp
            refine (HCA.out _ ((Only.refl [] _).drew.trans hR (by simp))).mono ?_
            rintro e' w2 ⟨rfl, o2⟩
            exact hK.out _ _ ⟨_, rfl, o2, rfl⟩
          · intro vals wr hR hp K hK
            dsimp only at hK ⊢
            obtain ⟨p9, -⟩ := hp
            replace p9 := p9 rfl
            dsimp only at p9
            rw [p9] at hK ⊢
            clear p9
            unfold RunsOp
            go_simp
            exact hK.out _ _ ⟨_, rfl, Only.refl _ _, rfl⟩
        case donek6 =>
          intro vals wd hR hF
          have f0 : vals 0 = .func (.func f) #[] #[] := hF 0 (by decide)
          have f1 : vals 1 = .slice (some ⟨ba, oa, none⟩) vs.length ca := hF 1 (by decide)
          have f2 : vals 2 = .int .i64 (k : Int) := hF 2 (by decide)
          have f3 : vals 3 = .pointer (some ⟨ba, oa + k * 7, none⟩) := hF 3 (by decide)
          have f4 : vals 4 = .agg #[.int .i64 xk, .string xn, .string xm, .string xa, .string xb, .string xc, .string xd] := hF 4 (by decide)
          have f5 : vals 5 = .slice (some ⟨bb, ob, none⟩) vs.length cb := hF 5 (by decide)
          have f6 : vals 6 = .int .i64 (k : Int) := hF 6 (by decide)
          have f7 : vals 7 = .pointer (some ⟨bb, ob + k * 7, none⟩) := hF 7 (by decide)
          have f8 : vals 8 = .agg #[.int .i64 yk, .string yn, .string ym, .string ya, .string yb, .string yc, .string yd] := hF 8 (by decide)
          have f9 : vals 9 = .bool pe := hF 9 (by decide)
          have f10 : vals 10 = .bool !pe := hF 10 (by decide)
          rw [f0, f1, f2, f3, f4, f5, f6, f7, f8, f9, f10]
          clear f0 f1 f2 f3 f4 f5 f6 f7 f8 f9 f10
          have HO5 := Lib.hid (HOr.out.trans ((Only.refl [] _).drew.trans hR (by simp)) (by simp))
          clear hR hF
          gi_wp2_with (fail)
          cases pe with
          | true =>
            go_wp2_with (fail)
            go_roundw
            case rel => exact ⟨k + 1, by go_num, by omega, Lib.hid (by rw [HTK.out, HP.out]; rfl), HO5⟩
            case measure => simp [intOf] <;> omega
          | false =>
            go_wp2_with (fail)
            go_ret
            exact ⟨by rw [HBAD.out (by first | rfl | trivial)]; rfl, HO5.out⟩
      · obtain rfl : k = vs.length := by omega
        go_wp2_with (fail)
        go_ret
        exact ⟨by have := HP.out; rw [List.take_length, List.take_of_length_le (by have := HL.out; omega)] at this; rw [this]; rfl, HOr.out⟩
  · have e1 : ((us.length : Int) != (vs.length : Int)) = true := by simp; omega
    have HE := Lib.hid (alikeG_len (p := p) hl)
    clear hl
    go_enter Tryd.func83, Tryd.ntmps83
    go_wp2_with (fail)
    go_ret
    exact ⟨by rw [HE.out]; rfl, Only.refl _ _⟩
set_option maxHeartbeats 4000000 in
theorem alike_Ru (f : Nat) (p : Ru → Ru → Bool) (eg : ∀ args w, (callFunc f args).run Tryd.prog w = .ok (.enter f args) w) {A B : Option Addr} {ca cb : Nat} {us vs : List Ru} {w : World} (hA : RowX Ru.cs 6 Ru.Li w A us) (hB : RowX Ru.cs 6 Ru.Li w B vs)
    (hf : ∀ a, a ∈ us → ∀ b, b ∈ vs → ∀ w', Ru.Li w' a → Ru.Li w' b → Calls Tryd.prog f #[a.val, b.val] w' fun r w'' => r = .returned (.bool (p a b)) ∧ Only [] w' w'') :
    Calls Tryd.prog 67 #[.slice A us.length ca, .slice B vs.length cb, .func (.func f) #[] #[]] w fun r w' => r = .returned (.bool (alikeG p us vs)) ∧ Only [] w w' := by
  have hlA := hA.len
  have hlB := hB.len
  have HA := Lib.hid hA
  have HB := Lib.hid hB
  have HF := Lib.hid hf
  clear hA hB hf
  by_cases hl : us.length = vs.length
  · have e1 : ((us.length : Int) != (vs.length : Int)) = false := by simp [hl]
    have HL := Lib.hid hl
    rw [hl] at hlA e1 ⊢
    go_enter Tryd.func67, Tryd.ntmps67
    go_wp2_with (fail)
    go_loopw [15] (fun i wr => ∃ k : Nat, i = .int .i64 k ∧ k ≤ vs.length ∧ Hid (alikeG p (us.take k) (vs.take k) = true) ∧ Hid (Only [] w wr)) (fun i _ => vs.length - (intOf i).toNat)
    case atStart => exact ⟨0, rfl, Nat.zero_le _, Lib.hid (by simp [alikeG]), Lib.hid (Only.refl _ _)⟩
    case round =>
      obtain ⟨k, rfl, hk, HP, HOr⟩ := hrel
      by_cases hlt : k < vs.length
      · obtain ⟨x, hx⟩ : ∃ e, us[k]? = some e := ⟨_, List.getElem?_eq_getElem (by have := HL.out; omega)⟩
        obtain ⟨y, hy⟩ : ∃ e, vs[k]? = some e := ⟨_, List.getElem?_eq_getElem hlt⟩
        have hmx : x ∈ us := List.mem_of_getElem? hx
        have hmy : y ∈ vs := List.mem_of_getElem? hy
        have HLx := Lib.hid (Ru.Li.keep _ _ _ (HA.out.sub x hmx) HOr.out)
        have HLy := Lib.hid (Ru.Li.keep _ _ _ (HB.out.sub y hmy) HOr.out)
        have hcall := HF.out x hmx y hmy
        have HTK := Lib.hid (alikeG_take (p := p) HL.out hx hy)
        have HBAD := Lib.hid (alikeG_bad (p := p) hx hy)
        have hrx := (HA.out.row k _ hx).keep HOr.out
        have hry := (HB.out.row k _ hy).keep HOr.out
        obtain ⟨pe, hpe⟩ : ∃ pe, p x y = pe := ⟨_, rfl⟩
        rw [hpe] at hcall HTK HBAD
        obtain ⟨xeo, xen, xes, xeu, xeA, xec, xel, xsA, xsc, xsl⟩ := x
        obtain ⟨yeo, yen, yes, yeu, yeA, yec, yel, ysA, ysc, ysl⟩ := y
        obtain ⟨ba, oa, rfl, hba, c0, c1, c2, c3, c4, c5⟩ := Ru.at_cells hrx
        obtain ⟨bb, ob, rfl, hbb, d0, d1, d2, d3, d4, d5⟩ := Ru.at_cells hry
        have HCX := Lib.hid (show ba < wr.heap.size ∧ wr.cell? ⟨ba, oa + k * 6, none⟩ = some (.int .i64 xeo) ∧ wr.cell? ⟨ba, oa + k * 6 + 1, none⟩ = some (.int .i64 xen) ∧ wr.cell? ⟨ba, oa + k * 6 + 2, none⟩ = some (.string xes) ∧ wr.cell? ⟨ba, oa + k * 6 + 3, none⟩ = some (.string xeu) ∧ wr.cell? ⟨ba, oa + k * 6 + 4, none⟩ = some (.slice xeA xel.length xec) ∧ wr.cell? ⟨ba, oa + k * 6 + 5, none⟩ = some (.slice xsA xsl.length xsc) from ⟨hba, c0, c1, c2, c3, c4, c5⟩)
        have HCY := Lib.hid (show bb < wr.heap.size ∧ wr.cell? ⟨bb, ob + k * 6, none⟩ = some (.int .i64 yeo) ∧ wr.cell? ⟨bb, ob + k * 6 + 1, none⟩ = some (.int .i64 yen) ∧ wr.cell? ⟨bb, ob + k * 6 + 2, none⟩ = some (.string yes) ∧ wr.cell? ⟨bb, ob + k * 6 + 3, none⟩ = some (.string yeu) ∧ wr.cell? ⟨bb, ob + k * 6 + 4, none⟩ = some (.slice yeA yel.length yec) ∧ wr.cell? ⟨bb, ob + k * 6 + 5, none⟩ = some (.slice ysA ysl.length ysc) from ⟨hbb, d0, d1, d2, d3, d4, d5⟩)
        have HCA := Lib.hid (show ∀ w', Only [] wr w' → Calls Tryd.prog f #[.agg #[.int .i64 xeo, .int .i64 xen, .string xes, .string xeu, .slice xeA xel.length xec, .slice xsA xsl.length xsc], .agg #[.int .i64 yeo, .int .i64 yen, .string yes, .string yeu, .slice yeA yel.length yec, .slice ysA ysl.length ysc]] w' fun r w'' => r = .returned (.bool pe) ∧ Only [] w' w'' from fun w' o => hcall w' (Ru.Li.keep _ _ _ HLx.out o) (Ru.Li.keep _ _ _ HLy.out o))
        have hki : (0 : Int) ≤ (k : Int) := by omega
        have hki2 : (k : Int) < (vs.length : Int) := by omega
        clear hx hy hmx hmy hcall hrx hry hpe c0 c1 c2 c3 c4 c5 d0 d1 d2 d3 d4 d5 hba hbb
        obtain ⟨wq, hwq⟩ : ∃ wq : World, wq = wr := ⟨_, rfl⟩
        subst hwq
        go_wp2_with (fail)
        refine (wpIn_wide (n := 9)).1 ?_
        refine wpIn_region_relR 11 (Only []) (fr := ?frk6) (tl := ?tlk6) (fun iq v wv => match iq with
          | 0 => v = .func (.func f) #[] #[]
          | 1 => v = .slice (some ⟨ba, oa, none⟩) vs.length ca
          | 2 => v = .int .i64 (k : Int)
          | 3 => v = .pointer (some ⟨ba, oa + k * 6, none⟩)
          | 4 => v = .agg #[.int .i64 xeo, .int .i64 xen, .string xes, .string xeu, .slice xeA xel.length xec, .slice xsA xsl.length xsc]
          | 5 => v = .slice (some ⟨bb, ob, none⟩) vs.length cb
          | 6 => v = .int .i64 (k : Int)
          | 7 => v = .pointer (some ⟨bb, ob + k * 6, none⟩)
          | 8 => v = .agg #[.int .i64 yeo, .int .i64 yen, .string yes, .string yeu, .slice yeA yel.length yec, .slice ysA ysl.length ysc]
          | 9 => v = .bool pe
          | 10 => v = .bool !pe
          | _ => True) (.inl rfl) (by kernel_rfl) (by kernel_rfl) (by kernel_rfl) (by kernel_rfl) (by kernel_rfl) (by kernel_rfl) (by decide) ?htlk6 ?hfrk6 (Only.refl _ _) (fun _ _ _ h k => h.trans k (fun _ hx => .inl hx)) ?stabk6 ?stepsk6 ?donek6
        case htlk6 => simp only [List.drop_succ_cons, List.drop_zero]; rfl
        case hfrk6 => intro vals; simp only [putAll, dstAt, Act.put, List.getElem?_toArray, List.getElem?_cons_zero, List.getElem?_cons_succ, Option.bind_some, List.setIfInBounds_toArray, List.set_cons_zero, List.set_cons_succ]; rfl
        case stabk6 =>
          intro i v wa wb h
          try dsimp only
          split <;> first | exact id
        case stepsk6 =>
          refine ⟨?_, ?_, ?_, ?_, ?_, ?_, ?_, ?_, ?_, ?_, ?_, trivial⟩
          · intro vals wr hR hp K hK
            dsimp only at hK ⊢
            clear hp
            unfold RunsOp
            go_simp
            exact hK.out _ _ ⟨_, rfl, Only.refl _ _, rfl⟩
          · intro vals wr hR hp K hK
            dsimp only at hK ⊢
            clear hp
            unfold RunsOp
            go_simp
            exact hK.out _ _ ⟨_, rfl, Only.refl _ _, rfl⟩
          · intro vals wr hR hp K hK
            dsimp only at hK ⊢
            clear hp
            unfold RunsOp
            go_simp
            exact hK.out _ _ ⟨_, rfl, Only.refl _ _, rfl⟩
          · intro vals wr hR hp K hK
            dsimp only at hK ⊢
            obtain ⟨p1, p2, -⟩ := hp
            replace p1 := p1 rfl
            replace p2 := p2 rfl
            dsimp only at p1 p2
            rw [p1, p2] at hK ⊢
            clear p1 p2
            unfold RunsOp
            go_simp
            exact hK.out _ _ ⟨_, rfl, Only.refl _ _, rfl⟩
          · intro vals wr hR hp K hK
            dsimp only at hK ⊢
            obtain ⟨p3, -⟩ := hp
            replace p3 := p3 rfl
            dsimp only at p3
            rw [p3] at hK ⊢
            clear p3
            unfold RunsOp
            have q0 := (hR.cell (p := ⟨ba, oa + k * 6, none⟩) HCX.out.1 (by simp)).trans HCX.out.2.1
            have q1 := (hR.cell (p := ⟨ba, oa + k * 6 + 1, none⟩) HCX.out.1 (by simp)).trans HCX.out.2.2.1
            have q2 := (hR.cell (p := ⟨ba, oa + k * 6 + 2, none⟩) HCX.out.1 (by simp)).trans HCX.out.2.2.2.1
            have q3 := (hR.cell (p := ⟨ba, oa + k * 6 + 3, none⟩) HCX.out.1 (by simp)).trans HCX.out.2.2.2.2.1
            have q4 := (hR.cell (p := ⟨ba, oa + k * 6 + 4, none⟩) HCX.out.1 (by simp)).trans HCX.out.2.2.2.2.2.1
            have q5 := (hR.cell (p := ⟨ba, oa + k * 6 + 5, none⟩) HCX.out.1 (by simp)).trans HCX.out.2.2.2.2.2.2
            go_simp
            exact hK.out _ _ ⟨_, rfl, Only.refl _ _, rfl⟩
          · intro vals wr hR hp K hK
            dsimp only at hK ⊢
            clear hp
            unfold RunsOp
            go_simp
            exact hK.out _ _ ⟨_, rfl, Only.refl _ _, rfl⟩
          · intro vals wr hR hp K hK
            dsimp only at hK ⊢
            clear hp
            unfold RunsOp
            go_simp
            exact hK.out _ _ ⟨_, rfl, Only.refl _ _, rfl⟩
          · intro vals wr hR hp K hK
            dsimp only at hK ⊢
            obtain ⟨p5, p6, -⟩ := hp
            replace p5 := p5 rfl
            replace p6 := p6 rfl
            dsimp only at p5 p6
            rw [p5, p6] at hK ⊢
            clear p5 p6
            unfold RunsOp
            go_simp
            exact hK.out _ _ ⟨_, rfl, Only.refl _ _, rfl⟩
          · intro vals wr hR hp K hK
            dsimp only at hK ⊢
            obtain ⟨p7, -⟩ := hp
            replace p7 := p7 rfl
            dsimp only at p7
            rw [p7] at hK ⊢
            clear p7
            unfold RunsOp
            have q0 := (hR.cell (p := ⟨bb, ob + k * 6, none⟩) HCY.out.1 (by simp)).trans HCY.out.2.1
            have q1 := (hR.cell (p := ⟨bb, ob + k * 6 + 1, none⟩) HCY.out.1 (by simp)).trans HCY.out.2.2.1
            have q2 := (hR.cell (p := ⟨bb, ob + k * 6 + 2, none⟩) HCY.out.1 (by simp)).trans HCY.out.2.2.2.1
            have q3 := (hR.cell (p := ⟨bb, ob + k * 6 + 3, none⟩) HCY.out.1 (by simp)).trans HCY.out.2.2.2.2.1
            have q4 := (hR.cell (p := ⟨bb, ob + k * 6 + 4, none⟩) HCY.out.1 (by simp)).trans HCY.out.2.2.2.2.2.1
            have q5 := (hR.cell (p := ⟨bb, ob + k * 6 + 5, none⟩) HCY.out.1 (by simp)).trans HCY.out.2.2.2.2.2.2
            go_simp
            exact hK.out _ _ ⟨_, rfl, Only.refl _ _, rfl⟩
          · intro vals wr hR hp K hK
            dsimp only at hK ⊢
            obtain ⟨p0, p4, p8, -⟩ := hp
            replace p0 := p0 rfl
            replace p4 := p4 rfl
            replace p8 := p8 rfl
            dsimp only at p0 p4 p8
            rw [p0, p4, p8] at hK ⊢
            clear p0 p4 p8
            unfold RunsOp
            go_simp
            refine (HCA.out _ ((Only.refl [] _).drew.trans hR (by simp))).mono ?_
            rintro e' w2 ⟨rfl, o2⟩
            exact hK.out _ _ ⟨_, rfl, o2, rfl⟩
          · intro vals wr hR hp K hK
            dsimp only at hK ⊢
            obtain ⟨p9, -⟩ := hp
            replace p9 := p9 rfl
            dsimp only at p9
            rw [p9] at hK ⊢
            clear p9
            unfold RunsOp
            go_simp
            exact hK.out _ _ ⟨_, rfl, Only.refl _ _, rfl⟩
        case donek6 =>
          intro vals wd hR hF
          have f0 : vals 0 = .func (.func f) #[] #[] := hF 0 (by decide)
          have f1 : vals 1 = .slice (some ⟨ba, oa, none⟩) vs.length ca := hF 1 (by decide)
          have f2 : vals 2 = .int .i64 (k : Int) := hF 2 (by decide)
          have f3 : vals 3 = .pointer (some ⟨ba, oa + k * 6, none⟩) := hF 3 (by decide)
          have f4 : vals 4 = .agg #[.int .i64 xeo, .int .i64 xen, .string xes, .string xeu, .slice xeA xel.length xec, .slice xsA xsl.length xsc] := hF 4 (by decide)
          have f5 : vals 5 = .slice (some ⟨bb, ob, none⟩) vs.length cb := hF 5 (by decide)
          have f6 : vals 6 = .int .i64 (k : Int) := hF 6 (by decide)
          have f7 : vals 7 = .pointer (some ⟨bb, ob + k * 6, none⟩) := hF 7 (by decide)
          have f8 : vals 8 = .agg #[.int .i64 yeo, .int .i64 yen, .string yes, .string yeu, .slice yeA yel.length yec, .slice ysA ysl.length ysc] := hF 8 (by decide)
          have f9 : vals 9 = .bool pe := hF 9 (by decide)
          have f10 : vals 10 = .bool !pe := hF 10 (by decide)
          rw [f0, f1, f2, f3, f4, f5, f6, f7, f8, f9, f10]
          clear f0 f1 f2 f3 f4 f5 f6 f7 f8 f9 f10
          have HO5 := Lib.hid (HOr.out.trans ((Only.refl [] _).drew.trans hR (by simp)) (by simp))
          clear hR hF
          gi_wp2_with (fail)
          cases pe with
          | true =>
            go_wp2_with (fail)
            go_roundw
            case rel => exact ⟨k + 1, by go_num, by omega, Lib.hid (by rw [HTK.out, HP.out]; rfl), HO5⟩
            case measure => simp [intOf] <;> omega
          | false =>
            go_wp2_with (fail)
            go_ret
            exact ⟨by rw [HBAD.out (by first | rfl | trivial)]; rfl, HO5.out⟩
      · obtain rfl : k = vs.length := by omega
        go_wp2_with (fail)
        go_ret
        exact ⟨by have := HP.out; rw [List.take_length, List.take_of_length_le (by have := HL.out; omega)] at this; rw [this]; rfl, HOr.out⟩
  · have e1 : ((us.length : Int) != (vs.length : Int)) = true := by simp; omega
    have HE := Lib.hid (alikeG_len (p := p) hl)
    clear hl
    go_enter Tryd.func67, Tryd.ntmps67
    go_wp2_with (fail)
    go_ret
    exact ⟨by rw [HE.out]; rfl, Only.refl _ _⟩
set_option maxHeartbeats 4000000 in
theorem alike_Md (f : Nat) (p : Md → Md → Bool) (eg : ∀ args w, (callFunc f args).run Tryd.prog w = .ok (.enter f args) w) {A B : Option Addr} {ca cb : Nat} {us vs : List Md} {w : World} (hA : RowX Md.cs 14 Md.Li w A us) (hB : RowX Md.cs 14 Md.Li w B vs)
    (hf : ∀ a, a ∈ us → ∀ b, b ∈ vs → ∀ w', Md.Li w' a → Md.Li w' b → Calls Tryd.prog f #[a.val, b.val] w' fun r w'' => r = .returned (.bool (p a b)) ∧ Only [] w' w'') :
    Calls Tryd.prog 44 #[.slice A us.length ca, .slice B vs.length cb, .func (.func f) #[] #[]] w fun r w' => r = .returned (.bool (alikeG p us vs)) ∧ Only [] w w' := by
  have hlA := hA.len
  have hlB := hB.len
  have HA := Lib.hid hA
  have HB := Lib.hid hB
  have HF := Lib.hid hf
  clear hA hB hf
  by_cases hl : us.length = vs.length
  · have e1 : ((us.length : Int) != (vs.length : Int)) = false := by simp [hl]
    have HL := Lib.hid hl
    rw [hl] at hlA e1 ⊢
    go_enter Tryd.func44, Tryd.ntmps44
    go_wp2_with (fail)
    go_loopw [15] (fun i wr => ∃ k : Nat, i = .int .i64 k ∧ k ≤ vs.length ∧ Hid (alikeG p (us.take k) (vs.take k) = true) ∧ Hid (Only [] w wr)) (fun i _ => vs.length - (intOf i).toNat)
    case atStart => exact ⟨0, rfl, Nat.zero_le _, Lib.hid (by simp [alikeG]), Lib.hid (Only.refl _ _)⟩
    case round =>
      obtain ⟨k, rfl, hk, HP, HOr⟩ := hrel
      by_cases hlt : k < vs.length
      · obtain ⟨x, hx⟩ : ∃ e, us[k]? = some e := ⟨_, List.getElem?_eq_getElem (by have := HL.out; omega)⟩
        obtain ⟨y, hy⟩ : ∃ e, vs[k]? = some e := ⟨_, List.getElem?_eq_getElem hlt⟩
        have hmx : x ∈ us := List.mem_of_getElem? hx
        have hmy : y ∈ vs := List.mem_of_getElem? hy
        have HLx := Lib.hid (Md.Li.keep _ _ _ (HA.out.sub x hmx) HOr.out)
        have HLy := Lib.hid (Md.Li.keep _ _ _ (HB.out.sub y hmy) HOr.out)
        have hcall := HF.out x hmx y hmy
        have HTK := Lib.hid (alikeG_take (p := p) HL.out hx hy)
        have HBAD := Lib.hid (alikeG_bad (p := p) hx hy)
        have hrx := (HA.out.row k _ hx).keep HOr.out
        have hry := (HB.out.row k _ hy).keep HOr.out
        obtain ⟨pe, hpe⟩ : ∃ pe, p x y = pe := ⟨_, rfl⟩
        rw [hpe] at hcall HTK HBAD
        obtain ⟨xn, xcp, xinsA, xinsc, xinsl, xoutsA, xoutsc, xoutsl, xvarsA, xvarsc, xvarsl, xtaA, xtac, xtal, xemitsA, xemitsc, xemitsl, xintA, xintc, xintl, xextA, xextc, xextl, xcon, xownA, xownc, xownl, xpartsA, xpartsc, xpartsl, xlinksA, xlinksc, xlinksl, xrulesA, xrulesc, xrulesl⟩ := x
        obtain ⟨yn, ycp, yinsA, yinsc, yinsl, youtsA, youtsc, youtsl, yvarsA, yvarsc, yvarsl, ytaA, ytac, ytal, yemitsA, yemitsc, yemitsl, yintA, yintc, yintl, yextA, yextc, yextl, ycon, yownA, yownc, yownl, ypartsA, ypartsc, ypartsl, ylinksA, ylinksc, ylinksl, yrulesA, yrulesc, yrulesl⟩ := y
        obtain ⟨ba, oa, rfl, hba, c0, c1, c2, c3, c4, c5, c6, c7, c8, c9, c10, c11, c12, c13⟩ := Md.at_cells hrx
        obtain ⟨bb, ob, rfl, hbb, d0, d1, d2, d3, d4, d5, d6, d7, d8, d9, d10, d11, d12, d13⟩ := Md.at_cells hry
        have HCX := Lib.hid (show ba < wr.heap.size ∧ wr.cell? ⟨ba, oa + k * 14, none⟩ = some (.string xn) ∧ wr.cell? ⟨ba, oa + k * 14 + 1, none⟩ = some (.bool xcp) ∧ wr.cell? ⟨ba, oa + k * 14 + 2, none⟩ = some (.slice xinsA xinsl.length xinsc) ∧ wr.cell? ⟨ba, oa + k * 14 + 3, none⟩ = some (.slice xoutsA xoutsl.length xoutsc) ∧ wr.cell? ⟨ba, oa + k * 14 + 4, none⟩ = some (.slice xvarsA xvarsl.length xvarsc) ∧ wr.cell? ⟨ba, oa + k * 14 + 5, none⟩ = some (.slice xtaA xtal.length xtac) ∧ wr.cell? ⟨ba, oa + k * 14 + 6, none⟩ = some (.slice xemitsA xemitsl.length xemitsc) ∧ wr.cell? ⟨ba, oa + k * 14 + 7, none⟩ = some (.slice xintA xintl.length xintc) ∧ wr.cell? ⟨ba, oa + k * 14 + 8, none⟩ = some (.slice xextA xextl.length xextc) ∧ wr.cell? ⟨ba, oa + k * 14 + 9, none⟩ = some (.int .i64 xcon) ∧ wr.cell? ⟨ba, oa + k * 14 + 10, none⟩ = some (.slice xownA xownl.length xownc) ∧ wr.cell? ⟨ba, oa + k * 14 + 11, none⟩ = some (.slice xpartsA xpartsl.length xpartsc) ∧ wr.cell? ⟨ba, oa + k * 14 + 12, none⟩ = some (.slice xlinksA xlinksl.length xlinksc) ∧ wr.cell? ⟨ba, oa + k * 14 + 13, none⟩ = some (.slice xrulesA xrulesl.length xrulesc) from ⟨hba, c0, c1, c2, c3, c4, c5, c6, c7, c8, c9, c10, c11, c12, c13⟩)
        have HCY := Lib.hid (show bb < wr.heap.size ∧ wr.cell? ⟨bb, ob + k * 14, none⟩ = some (.string yn) ∧ wr.cell? ⟨bb, ob + k * 14 + 1, none⟩ = some (.bool ycp) ∧ wr.cell? ⟨bb, ob + k * 14 + 2, none⟩ = some (.slice yinsA yinsl.length yinsc) ∧ wr.cell? ⟨bb, ob + k * 14 + 3, none⟩ = some (.slice youtsA youtsl.length youtsc) ∧ wr.cell? ⟨bb, ob + k * 14 + 4, none⟩ = some (.slice yvarsA yvarsl.length yvarsc) ∧ wr.cell? ⟨bb, ob + k * 14 + 5, none⟩ = some (.slice ytaA ytal.length ytac) ∧ wr.cell? ⟨bb, ob + k * 14 + 6, none⟩ = some (.slice yemitsA yemitsl.length yemitsc) ∧ wr.cell? ⟨bb, ob + k * 14 + 7, none⟩ = some (.slice yintA yintl.length yintc) ∧ wr.cell? ⟨bb, ob + k * 14 + 8, none⟩ = some (.slice yextA yextl.length yextc) ∧ wr.cell? ⟨bb, ob + k * 14 + 9, none⟩ = some (.int .i64 ycon) ∧ wr.cell? ⟨bb, ob + k * 14 + 10, none⟩ = some (.slice yownA yownl.length yownc) ∧ wr.cell? ⟨bb, ob + k * 14 + 11, none⟩ = some (.slice ypartsA ypartsl.length ypartsc) ∧ wr.cell? ⟨bb, ob + k * 14 + 12, none⟩ = some (.slice ylinksA ylinksl.length ylinksc) ∧ wr.cell? ⟨bb, ob + k * 14 + 13, none⟩ = some (.slice yrulesA yrulesl.length yrulesc) from ⟨hbb, d0, d1, d2, d3, d4, d5, d6, d7, d8, d9, d10, d11, d12, d13⟩)
        have HCA := Lib.hid (show ∀ w', Only [] wr w' → Calls Tryd.prog f #[.agg #[.string xn, .bool xcp, .slice xinsA xinsl.length xinsc, .slice xoutsA xoutsl.length xoutsc, .slice xvarsA xvarsl.length xvarsc, .slice xtaA xtal.length xtac, .slice xemitsA xemitsl.length xemitsc, .slice xintA xintl.length xintc, .slice xextA xextl.length xextc, .int .i64 xcon, .slice xownA xownl.length xownc, .slice xpartsA xpartsl.length xpartsc, .slice xlinksA xlinksl.length xlinksc, .slice xrulesA xrulesl.length xrulesc], .agg #[.string yn, .bool ycp, .slice yinsA yinsl.length yinsc, .slice youtsA youtsl.length youtsc, .slice yvarsA yvarsl.length yvarsc, .slice ytaA ytal.length ytac, .slice yemitsA yemitsl.length yemitsc, .slice yintA yintl.length yintc, .slice yextA yextl.length yextc, .int .i64 ycon, .slice yownA yownl.length yownc, .slice ypartsA ypartsl.length ypartsc, .slice ylinksA ylinksl.length ylinksc, .slice yrulesA yrulesl.length yrulesc]] w' fun r w'' => r = .returned (.bool pe) ∧ Only [] w' w'' from fun w' o => hcall w' (Md.Li.keep _ _ _ HLx.out o) (Md.Li.keep _ _ _ HLy.out o))
        have hki : (0 : Int) ≤ (k : Int) := by omega
        have hki2 : (k : Int) < (vs.length : Int) := by omega
        clear hx hy hmx hmy hcall hrx hry hpe c0 c1 c2 c3 c4 c5 c6 c7 c8 c9 c10 c11 c12 c13 d0 d1 d2 d3 d4 d5 d6 d7 d8 d9 d10 d11 d12 d13 hba hbb
        obtain ⟨wq, hwq⟩ : ∃ wq : World, wq = wr := ⟨_, rfl⟩
        subst hwq
        go_wp2_with (fail)
        refine (wpIn_wide (n := 9)).1 ?_
        refine wpIn_region_relR 11 (Only []) (fr := ?frk6) (tl := ?tlk6) (fun iq v wv => match iq with
          | 0 => v = .func (.func f) #[] #[]
          | 1 => v = .slice (some ⟨ba, oa, none⟩) vs.length ca
          | 2 => v = .int .i64 (k : Int)
          | 3 => v = .pointer (some ⟨ba, oa + k * 14, none⟩)
          | 4 => v = .agg #[.string xn, .bool xcp, .slice xinsA xinsl.length xinsc, .slice xoutsA xoutsl.length xoutsc, .slice xvarsA xvarsl.length xvarsc, .slice xtaA xtal.length xtac, .slice xemitsA xemitsl.length xemitsc, .slice xintA xintl.length xintc, .slice xextA xextl.length xextc, .int .i64 xcon, .slice xownA xownl.length xownc, .slice xpartsA xpartsl.length xpartsc, .slice xlinksA xlinksl.length xlinksc, .slice xrulesA xrulesl.length xrulesc]
          | 5 => v = .slice (some ⟨bb, ob, none⟩) vs.length cb
          | 6 => v = .int .i64 (k : Int)
          | 7 => v = .pointer (some ⟨bb, ob + k * 14, none⟩)
          | 8 => v = .agg #[.string yn, .bool ycp, .slice yinsA yinsl.length yinsc, .slice youtsA youtsl.length youtsc, .slice yvarsA yvarsl.length yvarsc, .slice ytaA ytal.length ytac, .slice yemitsA yemitsl.length yemitsc, .slice yintA yintl.length yintc, .slice yextA yextl.length yextc, .int .i64 ycon, .slice yownA yownl.length yownc, .slice ypartsA ypartsl.length ypartsc, .slice ylinksA ylinksl.length ylinksc, .slice yrulesA yrulesl.length yrulesc]
          | 9 => v = .bool pe
          | 10 => v = .bool !pe
          | _ => True) (.inl rfl) (by kernel_rfl) (by kernel_rfl) (by kernel_rfl) (by kernel_rfl) (by kernel_rfl) (by kernel_rfl) (by decide) ?htlk6 ?hfrk6 (Only.refl _ _) (fun _ _ _ h k => h.trans k (fun _ hx => .inl hx)) ?stabk6 ?stepsk6 ?donek6
        case htlk6 => simp only [List.drop_succ_cons, List.drop_zero]; rfl
        case hfrk6 => intro vals; simp only [putAll, dstAt, Act.put, List.getElem?_toArray, List.getElem?_cons_zero, List.getElem?_cons_succ, Option.bind_some, List.setIfInBounds_toArray, List.set_cons_zero, List.set_cons_succ]; rfl
        case stabk6 =>
          intro i v wa wb h
          try dsimp only
          split <;> first | exact id
        case stepsk6 =>
          refine ⟨?_, ?_, ?_, ?_, ?_, ?_, ?_, ?_, ?_, ?_, ?_, trivial⟩
          · intro vals wr hR hp K hK
            dsimp only at hK ⊢
            clear hp
            unfold RunsOp
            go_simp
            exact hK.out _ _ ⟨_, rfl, Only.refl _ _, rfl⟩
          · intro vals wr hR hp K hK
            dsimp only at hK ⊢
            clear hp
            unfold RunsOp
            go_simp
            exact hK.out _ _ ⟨_, rfl, Only.refl _ _, rfl⟩
          · intro vals wr hR hp K hK
            dsimp only at hK ⊢
            clear hp
            unfold RunsOp
            go_simp
            exact hK.out _ _ ⟨_, rfl, Only.refl _ _, rfl⟩
          · intro vals wr hR hp K hK
            dsimp only at hK ⊢
            obtain ⟨p1, p2, -⟩ := hp
            replace p1 := p1 rfl
            replace p2 := p2 rfl
            dsimp only at p1 p2
            rw [p1, p2] at hK ⊢
            clear p1 p2
            unfold RunsOp
            go_simp
            exact hK.out _ _ ⟨_, rfl, Only.refl _ _, rfl⟩
          · intro vals wr hR hp K hK
            dsimp only at hK ⊢
            obtain ⟨p3, -⟩ := hp
            replace p3 := p3 rfl
            dsimp only at p3
            rw [p3] at hK ⊢
            clear p3
            unfold RunsOp
            have q0 := (hR.cell (p := ⟨ba, oa + k * 14, none⟩) HCX.out.1 (by simp)).trans HCX.out.2.1
            have q1 := (hR.cell (p := ⟨ba, oa + k * 14 + 1, none⟩) HCX.out.1 (by simp)).trans HCX.out.2.2.1
            have q2 := (hR.cell (p := ⟨ba, oa + k * 14 + 2, none⟩) HCX.out.1 (by simp)).trans HCX.out.2.2.2.1
            have q3 := (hR.cell (p := ⟨ba, oa + k * 14 + 3, none⟩) HCX.out.1 (by simp)).trans HCX.out.2.2.2.2.1
            have q4 := (hR.cell (p := ⟨ba, oa + k * 14 + 4, none⟩) HCX.out.1 (by simp)).trans HCX.out.2.2.2.2.2.1
            have q5 := (hR.cell (p := ⟨ba, oa + k * 14 + 5, none⟩) HCX.out.1 (by simp)).trans HCX.out.2.2.2.2.2.2.1
            have q6 := (hR.cell (p := ⟨ba, oa + k * 14 + 6, none⟩) HCX.out.1 (by simp)).trans HCX.out.2.2.2.2.2.2.2.1
            have q7 := (hR.cell (p := ⟨ba, oa + k * 14 + 7, none⟩) HCX.out.1 (by simp)).trans HCX.out.2.2.2.2.2.2.2.2.1
            have q8 := (hR.cell (p := ⟨ba, oa + k * 14 + 8, none⟩) HCX.out.1 (by simp)).trans HCX.out.2.2.2.2.2.2.2.2.2.1
            have q9 := (hR.cell (p := ⟨ba, oa + k * 14 + 9, none⟩) HCX.out.1 (by simp)).trans HCX.out.2.2.2.2.2.2.2.2.2.2.1
            have q10 := (hR.cell (p := ⟨ba, oa + k * 14 + 10, none⟩) HCX.out.1 (by simp)).trans HCX.out.2.2.2.2.2.2.2.2.2.2.2.1
            have q11 := (hR.cell (p := ⟨ba, oa + k * 14 + 11, none⟩) HCX.out.1 (by simp)).trans HCX.out.2.2.2.2.2.2.2.2.2.2.2.2.1
            have q12 := (hR.cell (p := ⟨ba, oa + k * 14 + 12, none⟩) HCX.out.1 (by simp)).trans HCX.out.2.2.2.2.2.2.2.2.2.2.2.2.2.1
            have q13 := (hR.cell (p := ⟨ba, oa + k * 14 + 13, none⟩) HCX.out.1 (by simp)).trans HCX.out.2.2.2.2.2.2.2.2.2.2.2.2.2.2
            go_simp
            exact hK.out _ _ ⟨_, rfl, Only.refl _ _, rfl⟩
          · intro vals wr hR hp K hK
            dsimp only at hK ⊢
            clear hp
            unfold RunsOp
            go_simp
            exact hK.out _ _ ⟨_, rfl, Only.refl _ _, rfl⟩
          · intro vals wr hR hp K hK
            dsimp only at hK ⊢
            clear hp
            unfold RunsOp
            go_simp
            exact hK.out _ _ ⟨_, rfl, Only.refl _ _, rfl⟩
          · intro vals wr hR hp K hK
            dsimp only at hK ⊢
            obtain ⟨p5, p6, -⟩ := hp
            replace p5 := p5 rfl
            replace p6 := p6 rfl
            dsimp only at p5 p6
            rw [p5, p6] at hK ⊢
            clear p5 p6
            unfold RunsOp
            go_simp
            exact hK.out _ _ ⟨_, rfl, Only.refl _ _, rfl⟩
          · intro vals wr hR hp K hK
            dsimp only at hK ⊢
            obtain ⟨p7, -⟩ := hp
            replace p7 := p7 rfl
            dsimp only at p7
            rw [p7] at hK ⊢
            clear p7
            unfold RunsOp
            have q0 := (hR.cell (p := ⟨bb, ob + k * 14, none⟩) HCY.out.1 (by simp)).trans HCY.out.2.1
            have q1 := (hR.cell (p := ⟨bb, ob + k * 14 + 1, none⟩) HCY.out.1 (by simp)).trans HCY.out.2.2.1
            have q2 := (hR.cell (p := ⟨bb, ob + k * 14 + 2, none⟩) HCY.out.1 (by simp)).trans HCY.out.2.2.2.1
            have q3 := (hR.cell (p := ⟨bb, ob + k * 14 + 3, none⟩) HCY.out.1 (by simp)).trans HCY.out.2.2.2.2.1
            have q4 := (hR.cell (p := ⟨bb, ob + k * 14 + 4, none⟩) HCY.out.1 (by simp)).trans HCY.out.2.2.2.2.2.1
            have q5 := (hR.cell (p := ⟨bb, ob + k * 14 + 5, none⟩) HCY.out.1 (by simp)).trans HCY.out.2.2.2.2.2.2.1
            have q6 := (hR.cell (p := ⟨bb, ob + k * 14 + 6, none⟩) HCY.out.1 (by simp)).trans HCY.out.2.2.2.2.2.2.2.1
            have q7 := (hR.cell (p := ⟨bb, ob + k * 14 + 7, none⟩) HCY.out.1 (by simp)).trans HCY.out.2.2.2.2.2.2.2.2.1
            have q8 := (hR.cell (p := ⟨bb, ob + k * 14 + 8, none⟩) HCY.out.1 (by simp)).trans HCY.out.2.2.2.2.2.2.2.2.2.1
            have q9 := (hR.cell (p := ⟨bb, ob + k * 14 + 9, none⟩) HCY.out.1 (by simp)).trans HCY.out.2.2.2.2.2.2.2.2.2.2.1
            have q10 := (hR.cell (p := ⟨bb, ob + k * 14 + 10, none⟩) HCY.out.1 (by simp)).trans HCY.out.2.2.2.2.2.2.2.2.2.2.2.1
            have q11 := (hR.cell (p := ⟨bb, ob + k * 14 + 11, none⟩) HCY.out.1 (by simp)).trans HCY.out.2.2.2.2.2.2.2.2.2.2.2.2.1
            have q12 := (hR.cell (p := ⟨bb, ob + k * 14 + 12, none⟩) HCY.out.1 (by simp)).trans HCY.out.2.2.2.2.2.2.2.2.2.2.2.2.2.1
            have q13 := (hR.cell (p := ⟨bb, ob + k * 14 + 13, none⟩) HCY.out.1 (by simp)).trans HCY.out.2.2.2.2.2.2.2.2.2.2.2.2.2.2
            go_simp
            exact hK.out _ _ ⟨_, rfl, Only.refl _ _, rfl⟩
          · intro vals wr hR hp K hK
            dsimp only at hK ⊢
            obtain ⟨p0, p4, p8, -⟩ := hp
            replace p0 := p0 rfl
            replace p4 := p4 rfl
            replace p8 := p8 rfl
            dsimp only at p0 p4 p8
            rw [p0, p4, p8] at hK ⊢
            clear p0 p4 p8
            unfold RunsOp
            go_simp
            refine (HCA.out _ ((Only.refl [] _).drew.trans hR (by simp))).mono ?_
            rintro e' w2 ⟨rfl, o2⟩
            exact hK.out _ _ ⟨_, rfl, o2, rfl⟩
          · intro vals wr hR hp K hK
            dsimp only at hK ⊢
            obtain ⟨p9, -⟩ := hp
            replace p9 := p9 rfl
            dsimp only at p9
            rw [p9] at hK ⊢
            clear p9
            unfold RunsOp
            go_simp
            exact hK.out _ _ ⟨_, rfl, Only.refl _ _, rfl⟩
        case donek6 =>
          intro vals wd hR hF
          have f0 : vals 0 = .func (.func f) #[] #[] := hF 0 (by decide)
          have f1 : vals 1 = .slice (some ⟨ba, oa, none⟩) vs.length ca := hF 1 (by decide)
          have f2 : vals 2 = .int .i64 (k : Int) := hF 2 (by decide)
          have f3 : vals 3 = .pointer (some ⟨ba, oa + k * 14, none⟩) := hF 3 (by decide)
          have f4 : vals 4 = .agg #[.string xn, .bool xcp, .slice xinsA xinsl.length xinsc, .slice xoutsA xoutsl.length xoutsc, .slice xvarsA xvarsl.length xvarsc, .slice xtaA xtal.length xtac, .slice xemitsA xemitsl.length xemitsc, .slice xintA xintl.length xintc, .slice xextA xextl.length xextc, .int .i64 xcon, .slice xownA xownl.length xownc, .slice xpartsA xpartsl.length xpartsc, .slice xlinksA xlinksl.length xlinksc, .slice xrulesA xrulesl.length xrulesc] := hF 4 (by decide)
          have f5 : vals 5 = .slice (some ⟨bb, ob, none⟩) vs.length cb := hF 5 (by decide)
          have f6 : vals 6 = .int .i64 (k : Int) := hF 6 (by decide)
          have f7 : vals 7 = .pointer (some ⟨bb, ob + k * 14, none⟩) := hF 7 (by decide)
          have f8 : vals 8 = .agg #[.string yn, .bool ycp, .slice yinsA yinsl.length yinsc, .slice youtsA youtsl.length youtsc, .slice yvarsA yvarsl.length yvarsc, .slice ytaA ytal.length ytac, .slice yemitsA yemitsl.length yemitsc, .slice yintA yintl.length yintc, .slice yextA yextl.length yextc, .int .i64 ycon, .slice yownA yownl.length yownc, .slice ypartsA ypartsl.length ypartsc, .slice ylinksA ylinksl.length ylinksc, .slice yrulesA yrulesl.length yrulesc] := hF 8 (by decide)
          have f9 : vals 9 = .bool pe := hF 9 (by decide)
          have f10 : vals 10 = .bool !pe := hF 10 (by decide)
          rw [f0, f1, f2, f3, f4, f5, f6, f7, f8, f9, f10]
          clear f0 f1 f2 f3 f4 f5 f6 f7 f8 f9 f10
          have HO5 := Lib.hid (HOr.out.trans ((Only.refl [] _).drew.trans hR (by simp)) (by simp))
          clear hR hF
          gi_wp2_with (fail)
          cases pe with
          | true =>
            go_wp2_with (fail)
            go_roundw
            case rel => exact ⟨k + 1, by go_num, by omega, Lib.hid (by rw [HTK.out, HP.out]; rfl), HO5⟩
            case measure => simp [intOf] <;> omega
          | false =>
            go_wp2_with (fail)
            go_ret
            exact ⟨by rw [HBAD.out (by first | rfl | trivial)]; rfl, HO5.out⟩
      · obtain rfl : k = vs.length := by omega
        go_wp2_with (fail)
        go_ret
        exact ⟨by have := HP.out; rw [List.take_length, List.take_of_length_le (by have := HL.out; omega)] at this; rw [this]; rfl, HOr.out⟩
  · have e1 : ((us.length : Int) != (vs.length : Int)) = true := by simp; omega
    have HE := Lib.hid (alikeG_len (p := p) hl)
    clear hl
    go_enter Tryd.func44, Tryd.ntmps44
    go_wp2_with (fail)
    go_ret
    exact ⟨by rw [HE.out]; rfl, Only.refl _ _⟩
end Go.Proofs.YtfnacnlaphpflaaDoor
