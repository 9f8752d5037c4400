/- all, over rows. -/
import Derived.Test.YtfnacnlaphpflaaDoorPro
namespace Go.Proofs.YtfnacnlaphpflaaDoor
open Go.RowKit Go.Kx
open Go.Val (Tt)
set_option maxRecDepth 100000
set_option maxHeartbeats 4000000 in
theorem all_Po (f : Nat) (p : Po → Bool) (eg : ∀ args w, (callFunc f args).run Tryd.prog w = .ok (.enter f args) w) {A : Option Addr} {cap : Nat} {l : List Po} {w : World} (hR : RowX Po.cs 3 Po.Li w A l) (hW : WordsIs w)
    (hf : ∀ a, a ∈ l → ∀ w', Po.Li w' a → WordsIs w' → Calls Tryd.prog f #[a.val] w' fun r w'' => r = .returned (.bool (p a)) ∧ Only [] w' w'') :
    Calls Tryd.prog 72 #[.slice A l.length cap, .func (.func f) #[] #[]] w fun r w' => r = .returned (.bool (l.all p)) ∧ Only [] w w' := by
  have hlen := hR.len
  have HR := Lib.hid hR
  have HW := Lib.hid hW
  have HF := Lib.hid hf
  clear hR hW hf
  go_enter Tryd.func72, Tryd.ntmps72
  go_wp2_with (fail)
  go_loopw [9] (fun i wr => ∃ k : Nat, i = .int .i64 k ∧ k ≤ l.length ∧ (l.take k).all p = true ∧ Only [] w wr) (fun i _ => l.length - (intOf i).toNat)
  case atStart => exact ⟨0, rfl, Nat.zero_le _, by simp, Only.refl _ _⟩
  case round =>
    obtain ⟨k, rfl, hk, hp, hO⟩ := hrel
    have HOr := Lib.hid hO
    have HP := Lib.hid hp
    clear hO hp
    by_cases hlt : k < l.length
    · obtain ⟨e, he⟩ : ∃ e, l[k]? = some e := ⟨_, List.getElem?_eq_getElem hlt⟩
      have hmem : e ∈ l := List.mem_of_getElem? he
      have HLe := Lib.hid (Po.Li.keep _ _ _ (HR.out.sub e hmem) HOr.out)
      have hcall := HF.out e hmem
      have HTK := Lib.hid (show (l.take (k + 1)).all p = ((l.take k).all p && p e) from by rw [List.take_add_one, he, List.all_append]; simp)
      have HBAD := Lib.hid (show p e = false → l.all p = false from fun h => by rw [List.all_eq_false]; exact ⟨e, hmem, by rw [h]; decide⟩)
      have hrow := (HR.out.row k _ he).keep HOr.out
      obtain ⟨xn, xtk, xtA, xtc, xtl⟩ := e
      obtain ⟨b, o, rfl, hb, c0, c1, c2⟩ := Po.at_cells hrow
      obtain ⟨pe, hpe⟩ : ∃ pe, p (.mk xn xtk xtA xtc xtl) = pe := ⟨_, rfl⟩
      rw [hpe] at hcall HTK HBAD
      have HCA := Lib.hid (show ∀ w', Po.Li w' (.mk xn xtk xtA xtc xtl) → WordsIs w' → Calls Tryd.prog f #[.agg #[.string xn, .int .i64 xtk, .slice xtA xtl.length xtc]] w' fun r w'' => r = .returned (.bool pe) ∧ Only [] w' w'' from hcall)
      have oA : Only [] wr (wr.alloc (.cells #[.string xn, .int .i64 xtk, .slice xtA xtl.length xtc] 95)) := (Only.refl _ _).alloc _
      have HOA := Lib.hid oA
      clear he hmem hcall hpe oA hrow
      go_wp2_with (fail)
      refine (HCA.out _ (Po.Li.keep _ _ _ HLe.out HOA.out) (HW.out.keep (HOr.out.trans HOA.out (by simp)))).mono ?_
      rintro r w3 ⟨rfl, o3⟩
      have HO3 := Lib.hid ((HOr.out.trans HOA.out (by simp)).trans o3 (by simp))
      clear o3 c0 c1 c2
      cases pe with
      | true =>
        go_wp2_with (fail)
        go_roundw
        case rel => exact ⟨k + 1, by go_num, by omega, by rw [HTK.out, HP.out]; rfl, HO3.out⟩
        case measure => simp [intOf]; omega
      | false =>
        go_wp2_with (fail)
        go_ret
        exact ⟨by rw [show l.all p = false from HBAD.out (by first | rfl | trivial)]; rfl, HO3.out⟩
    · obtain rfl : k = l.length := by omega
      go_wp2_with (fail)
      go_ret
      exact ⟨by have := HP.out; rw [List.take_length] at this; rw [this]; rfl, HOr.out⟩
set_option maxHeartbeats 4000000 in
theorem all_Se (f : Nat) (p : Se → Bool) (eg : ∀ args w, (callFunc f args).run Tryd.prog w = .ok (.enter f args) w) {A : Option Addr} {cap : Nat} {l : List Se} {w : World} (hR : RowX Se.cs 6 Se.Li w A l) (hW : WordsIs w)
    (hf : ∀ a, a ∈ l → ∀ w', Se.Li w' a → WordsIs w' → Calls Tryd.prog f #[a.val] w' fun r w'' => r = .returned (.bool (p a)) ∧ Only [] w' w'') :
    Calls Tryd.prog 93 #[.slice A l.length cap, .func (.func f) #[] #[]] w fun r w' => r = .returned (.bool (l.all p)) ∧ Only [] w w' := by
  have hlen := hR.len
  have HR := Lib.hid hR
  have HW := Lib.hid hW
  have HF := Lib.hid hf
  clear hR hW hf
  go_enter Tryd.func93, Tryd.ntmps93
  go_wp2_with (fail)
  go_loopw [9] (fun i wr => ∃ k : Nat, i = .int .i64 k ∧ k ≤ l.length ∧ (l.take k).all p = true ∧ Only [] w wr) (fun i _ => l.length - (intOf i).toNat)
  case atStart => exact ⟨0, rfl, Nat.zero_le _, by simp, Only.refl _ _⟩
  case round =>
    obtain ⟨k, rfl, hk, hp, hO⟩ := hrel
    have HOr := Lib.hid hO
    have HP := Lib.hid hp
    clear hO hp
    by_cases hlt : k < l.length
    · obtain ⟨e, he⟩ : ∃ e, l[k]? = some e := ⟨_, List.getElem?_eq_getElem hlt⟩
      have hmem : e ∈ l := List.mem_of_getElem? he
      have HLe := Lib.hid (Se.Li.keep _ _ _ (HR.out.sub e hmem) HOr.out)
      have hcall := HF.out e hmem
      have HTK := Lib.hid (show (l.take (k + 1)).all p = ((l.take k).all p && p e) from by rw [List.take_add_one, he, List.all_append]; simp)
      have HBAD := Lib.hid (show p e = false → l.all p = false from fun h => by rw [List.all_eq_false]; exact ⟨e, hmem, by rw [h]; decide⟩)
      have hrow := (HR.out.row k _ he).keep HOr.out
      obtain ⟨xn, xeo, xen, xes, xeu, xeA, xec, xel⟩ := e
      obtain ⟨b, o, rfl, hb, c0, c1, c2, c3, c4, c5⟩ := Se.at_cells hrow
      obtain ⟨pe, hpe⟩ : ∃ pe, p (.mk xn xeo xen xes xeu xeA xec xel) = pe := ⟨_, rfl⟩
      rw [hpe] at hcall HTK HBAD
      have HCA := Lib.hid (show ∀ w', Se.Li w' (.mk xn xeo xen xes xeu xeA xec xel) → WordsIs w' → Calls Tryd.prog f #[.agg #[.string xn, .int .i64 xeo, .int .i64 xen, .string xes, .string xeu, .slice xeA xel.length xec]] w' fun r w'' => r = .returned (.bool pe) ∧ Only [] w' w'' from hcall)
      have oA : Only [] wr (wr.alloc (.cells #[.string xn, .int .i64 xeo, .int .i64 xen, .string xes, .string xeu, .slice xeA xel.length xec] 97)) := (Only.refl _ _).alloc _
      have HOA := Lib.hid oA
      clear he hmem hcall hpe oA hrow
      go_wp2_with (fail)
      refine (HCA.out _ (Se.Li.keep _ _ _ HLe.out HOA.out) (HW.out.keep (HOr.out.trans HOA.out (by simp)))).mono ?_
      rintro r w3 ⟨rfl, o3⟩
      have HO3 := Lib.hid ((HOr.out.trans HOA.out (by simp)).trans o3 (by simp))
      clear o3 c0 c1 c2 c3 c4 c5
      cases pe with
      | true =>
        go_wp2_with (fail)
        go_roundw
        case rel => exact ⟨k + 1, by go_num, by omega, by rw [HTK.out, HP.out]; rfl, HO3.out⟩
        case measure => simp [intOf]; omega
      | false =>
        go_wp2_with (fail)
        go_ret
        exact ⟨by rw [show l.all p = false from HBAD.out (by first | rfl | trivial)]; rfl, HO3.out⟩
    · obtain rfl : k = l.length := by omega
      go_wp2_with (fail)
      go_ret
      exact ⟨by have := HP.out; rw [List.take_length] at this; rw [this]; rfl, HOr.out⟩
set_option maxHeartbeats 4000000 in
theorem all_Em (f : Nat) (p : Em → Bool) (eg : ∀ args w, (callFunc f args).run Tryd.prog w = .ok (.enter f args) w) {A : Option Addr} {cap : Nat} {l : List Em} {w : World} (hR : RowX Em.cs 7 Em.Li w A l) (hW : WordsIs w)
    (hf : ∀ a, a ∈ l → ∀ w', Em.Li w' a → WordsIs w' → Calls Tryd.prog f #[a.val] w' fun r w'' => r = .returned (.bool (p a)) ∧ Only [] w' w'') :
    Calls Tryd.prog 95 #[.slice A l.length cap, .func (.func f) #[] #[]] w fun r w' => r = .returned (.bool (l.all p)) ∧ Only [] w w' := by
  have hlen := hR.len
  have HR := Lib.hid hR
  have HW := Lib.hid hW
  have HF := Lib.hid hf
  clear hR hW hf
  go_enter Tryd.func95, Tryd.ntmps95
  go_wp2_with (fail)
  go_loopw [9] (fun i wr => ∃ k : Nat, i = .int .i64 k ∧ k ≤ l.length ∧ (l.take k).all p = true ∧ Only [] w wr) (fun i _ => l.length - (intOf i).toNat)
  case atStart => exact ⟨0, rfl, Nat.zero_le _, by simp, Only.refl _ _⟩
  case round =>
    obtain ⟨k, rfl, hk, hp, hO⟩ := hrel
    have HOr := Lib.hid hO
    have HP := Lib.hid hp
    clear hO hp
    by_cases hlt : k < l.length
    · obtain ⟨e, he⟩ : ∃ e, l[k]? = some e := ⟨_, List.getElem?_eq_getElem hlt⟩
      have hmem : e ∈ l := List.mem_of_getElem? he
      have HLe := Lib.hid (Em.Li.keep _ _ _ (HR.out.sub e hmem) HOr.out)
      have hcall := HF.out e hmem
      have HTK := Lib.hid (show (l.take (k + 1)).all p = ((l.take k).all p && p e) from by rw [List.take_add_one, he, List.all_append]; simp)
      have HBAD := Lib.hid (show p e = false → l.all p = false from fun h => by rw [List.all_eq_false]; exact ⟨e, hmem, by rw [h]; decide⟩)
      have hrow := (HR.out.row k _ he).keep HOr.out
      obtain ⟨xp, xeo, xen, xes, xeu, xeA, xec, xel, xiA, xic, xil⟩ := e
      obtain ⟨b, o, rfl, hb, c0, c1, c2, c3, c4, c5, c6⟩ := Em.at_cells hrow
      obtain ⟨pe, hpe⟩ : ∃ pe, p (.mk xp xeo xen xes xeu xeA xec xel xiA xic xil) = pe := ⟨_, rfl⟩
      rw [hpe] at hcall HTK HBAD
      have HCA := Lib.hid (show ∀ w', Em.Li w' (.mk xp xeo xen xes xeu xeA xec xel xiA xic xil) → WordsIs w' → Calls Tryd.prog f #[.agg #[.string xp, .int .i64 xeo, .int .i64 xen, .string xes, .string xeu, .slice xeA xel.length xec, .slice xiA xil.length xic]] w' fun r w'' => r = .returned (.bool pe) ∧ Only [] w' w'' from hcall)
      have oA : Only [] wr (wr.alloc (.cells #[.string xp, .int .i64 xeo, .int .i64 xen, .string xes, .string xeu, .slice xeA xel.length xec, .slice xiA xil.length xic] 74)) := (Only.refl _ _).alloc _
      have HOA := Lib.hid oA
      clear he hmem hcall hpe oA hrow
      go_wp2_with (fail)
      refine (HCA.out _ (Em.Li.keep _ _ _ HLe.out HOA.out) (HW.out.keep (HOr.out.trans HOA.out (by simp)))).mono ?_
      rintro r w3 ⟨rfl, o3⟩
      have HO3 := Lib.hid ((HOr.out.trans HOA.out (by simp)).trans o3 (by simp))
      clear o3 c0 c1 c2 c3 c4 c5 c6
      cases pe with
      | true =>
        go_wp2_with (fail)
        go_roundw
        case rel => exact ⟨k + 1, by go_num, by omega, by rw [HTK.out, HP.out]; rfl, HO3.out⟩
        case measure => simp [intOf]; omega
      | false =>
        go_wp2_with (fail)
        go_ret
        exact ⟨by rw [show l.all p = false from HBAD.out (by first | rfl | trivial)]; rfl, HO3.out⟩
    · obtain rfl : k = l.length := by omega
      go_wp2_with (fail)
      go_ret
      exact ⟨by have := HP.out; rw [List.take_length] at this; rw [this]; rfl, HOr.out⟩
set_option maxHeartbeats 4000000 in
theorem all_Pa (f : Nat) (p : Pa → Bool) (eg : ∀ args w, (callFunc f args).run Tryd.prog w = .ok (.enter f args) w) {A : Option Addr} {cap : Nat} {l : List Pa} {w : World} (hR : RowX Pa.cs 2 Pa.Li w A l) (hW : WordsIs w)
    (hf : ∀ a, a ∈ l → ∀ w', Pa.Li w' a → WordsIs w' → Calls Tryd.prog f #[a.val] w' fun r w'' => r = .returned (.bool (p a)) ∧ Only [] w' w'') :
    Calls Tryd.prog 87 #[.slice A l.length cap, .func (.func f) #[] #[]] w fun r w' => r = .returned (.bool (l.all p)) ∧ Only [] w w' := by
  have hlen := hR.len
  have HR := Lib.hid hR
  have HW := Lib.hid hW
  have HF := Lib.hid hf
  clear hR hW hf
  go_enter Tryd.func87, Tryd.ntmps87
  go_wp2_with (fail)
  go_loopw [9] (fun i wr => ∃ k : Nat, i = .int .i64 k ∧ k ≤ l.length ∧ (l.take k).all p = true ∧ Only [] w wr) (fun i _ => l.length - (intOf i).toNat)
  case atStart => exact ⟨0, rfl, Nat.zero_le _, by simp, Only.refl _ _⟩
  case round =>
    obtain ⟨k, rfl, hk, hp, hO⟩ := hrel
    have HOr := Lib.hid hO
    have HP := Lib.hid hp
    clear hO hp
    by_cases hlt : k < l.length
    · obtain ⟨e, he⟩ : ∃ e, l[k]? = some e := ⟨_, List.getElem?_eq_getElem hlt⟩
      have hmem : e ∈ l := List.mem_of_getElem? he
      have HLe := Lib.hid (Pa.Li.keep _ _ _ (HR.out.sub e hmem) HOr.out)
      have hcall := HF.out e hmem
      have HTK := Lib.hid (show (l.take (k + 1)).all p = ((l.take k).all p && p e) from by rw [List.take_add_one, he, List.all_append]; simp)
      have HBAD := Lib.hid (show p e = false → l.all p = false from fun h => by rw [List.all_eq_false]; exact ⟨e, hmem, by rw [h]; decide⟩)
      have hrow := (HR.out.row k _ he).keep HOr.out
      obtain ⟨xn, xm⟩ := e
      obtain ⟨b, o, rfl, hb, c0, c1⟩ := Pa.at_cells hrow
      obtain ⟨pe, hpe⟩ : ∃ pe, p (.mk xn xm) = pe := ⟨_, rfl⟩
      rw [hpe] at hcall HTK HBAD
      have HCA := Lib.hid (show ∀ w', Pa.Li w' (.mk xn xm) → WordsIs w' → Calls Tryd.prog f #[.agg #[.string xn, .string xm]] w' fun r w'' => r = .returned (.bool pe) ∧ Only [] w' w'' from hcall)
      have oA : Only [] wr (wr.alloc (.cells #[.string xn, .string xm] 106)) := (Only.refl _ _).alloc _
      have HOA := Lib.hid oA
      clear he hmem hcall hpe oA hrow
      go_wp2_with (fail)
      refine (HCA.out _ (Pa.Li.keep _ _ _ HLe.out HOA.out) (HW.out.keep (HOr.out.trans HOA.out (by simp)))).mono ?_
      rintro r w3 ⟨rfl, o3⟩
      have HO3 := Lib.hid ((HOr.out.trans HOA.out (by simp)).trans o3 (by simp))
      clear o3 c0 c1
      cases pe with
      | true =>
        go_wp2_with (fail)
        go_roundw
        case rel => exact ⟨k + 1, by go_num, by omega, by rw [HTK.out, HP.out]; rfl, HO3.out⟩
        case measure => simp [intOf]; omega
      | false =>
        go_wp2_with (fail)
        go_ret
        exact ⟨by rw [show l.all p = false from HBAD.out (by first | rfl | trivial)]; rfl, HO3.out⟩
    · obtain rfl : k = l.length := by omega
      go_wp2_with (fail)
      go_ret
      exact ⟨by have := HP.out; rw [List.take_length] at this; rw [this]; rfl, HOr.out⟩
set_option maxHeartbeats 4000000 in
theorem all_Lk (f : Nat) (p : Lk → Bool) (eg : ∀ args w, (callFunc f args).run Tryd.prog w = .ok (.enter f args) w) {A : Option Addr} {cap : Nat} {l : List Lk} {w : World} (hR : RowX Lk.cs 4 Lk.Li w A l) (hW : WordsIs w)
    (hf : ∀ a, a ∈ l → ∀ w', Lk.Li w' a → WordsIs w' → Calls Tryd.prog f #[a.val] w' fun r w'' => r = .returned (.bool (p a)) ∧ Only [] w' w'') :
    Calls Tryd.prog 89 #[.slice A l.length cap, .func (.func f) #[] #[]] w fun r w' => r = .returned (.bool (l.all p)) ∧ Only [] w w' := by
  have hlen := hR.len
  have HR := Lib.hid hR
  have HW := Lib.hid hW
  have HF := Lib.hid hf
  clear hR hW hf
  go_enter Tryd.func89, Tryd.ntmps89
  go_wp2_with (fail)
  go_loopw [9] (fun i wr => ∃ k : Nat, i = .int .i64 k ∧ k ≤ l.length ∧ (l.take k).all p = true ∧ Only [] w wr) (fun i _ => l.length - (intOf i).toNat)
  case atStart => exact ⟨0, rfl, Nat.zero_le _, by simp, Only.refl _ _⟩
  case round =>
    obtain ⟨k, rfl, hk, hp, hO⟩ := hrel
    have HOr := Lib.hid hO
    have HP := Lib.hid hp
    clear hO hp
    by_cases hlt : k < l.length
    · obtain ⟨e, he⟩ : ∃ e, l[k]? = some e := ⟨_, List.getElem?_eq_getElem hlt⟩
      have hmem : e ∈ l := List.mem_of_getElem? he
      have HLe := Lib.hid (Lk.Li.keep _ _ _ (HR.out.sub e hmem) HOr.out)
      have hcall := HF.out e hmem
      have HTK := Lib.hid (show (l.take (k + 1)).all p = ((l.take k).all p && p e) from by rw [List.take_add_one, he, List.all_append]; simp)
      have HBAD := Lib.hid (show p e = false → l.all p = false from fun h => by rw [List.all_eq_false]; exact ⟨e, hmem, by rw [h]; decide⟩)
      have hrow := (HR.out.row k _ he).keep HOr.out
      obtain ⟨xa, xb, xc, xd⟩ := e
      obtain ⟨b, o, rfl, hb, c0, c1, c2, c3⟩ := Lk.at_cells hrow
      obtain ⟨pe, hpe⟩ : ∃ pe, p (.mk xa xb xc xd) = pe := ⟨_, rfl⟩
      rw [hpe] at hcall HTK HBAD
      have HCA := Lib.hid (show ∀ w', Lk.Li w' (.mk xa xb xc xd) → WordsIs w' → Calls Tryd.prog f #[.agg #[.string xa, .string xb, .string xc, .string xd]] w' fun r w'' => r = .returned (.bool pe) ∧ Only [] w' w'' from hcall)
      have oA : Only [] wr (wr.alloc (.cells #[.string xa, .string xb, .string xc, .string xd] 112)) := (Only.refl _ _).alloc _
      have HOA := Lib.hid oA
      clear he hmem hcall hpe oA hrow
      go_wp2_with (fail)
      refine (HCA.out _ (Lk.Li.keep _ _ _ HLe.out HOA.out) (HW.out.keep (HOr.out.trans HOA.out (by simp)))).mono ?_
      rintro r w3 ⟨rfl, o3⟩
      have HO3 := Lib.hid ((HOr.out.trans HOA.out (by simp)).trans o3 (by simp))
      clear o3 c0 c1 c2 c3
      cases pe with
      | true =>
        go_wp2_with (fail)
        go_roundw
        case rel => exact ⟨k + 1, by go_num, by omega, by rw [HTK.out, HP.out]; rfl, HO3.out⟩
        case measure => simp [intOf]; omega
      | false =>
        go_wp2_with (fail)
        go_ret
        exact ⟨by rw [show l.all p = false from HBAD.out (by first | rfl | trivial)]; rfl, HO3.out⟩
    · obtain rfl : k = l.length := by omega
      go_wp2_with (fail)
      go_ret
      exact ⟨by have := HP.out; rw [List.take_length] at this; rw [this]; rfl, HOr.out⟩
set_option maxHeartbeats 4000000 in
theorem all_Ac (f : Nat) (p : Ac → Bool) (eg : ∀ args w, (callFunc f args).run Tryd.prog w = .ok (.enter f args) w) {A : Option Addr} {cap : Nat} {l : List Ac} {w : World} (hR : RowX Ac.cs 7 Ac.Li w A l) (hW : WordsIs w)
    (hf : ∀ a, a ∈ l → ∀ w', Ac.Li w' a → WordsIs w' → Calls Tryd.prog f #[a.val] w' fun r w'' => r = .returned (.bool (p a)) ∧ Only [] w' w'') :
    Calls Tryd.prog 102 #[.slice A l.length cap, .func (.func f) #[] #[]] w fun r w' => r = .returned (.bool (l.all p)) ∧ Only [] w w' := by
  have hlen := hR.len
  have HR := Lib.hid hR
  have HW := Lib.hid hW
  have HF := Lib.hid hf
  clear hR hW hf
  go_enter Tryd.func102, Tryd.ntmps102
  go_wp2_with (fail)
  go_loopw [9] (fun i wr => ∃ k : Nat, i = .int .i64 k ∧ k ≤ l.length ∧ (l.take k).all p = true ∧ Only [] w wr) (fun i _ => l.length - (intOf i).toNat)
  case atStart => exact ⟨0, rfl, Nat.zero_le _, by simp, Only.refl _ _⟩
  case round =>
    obtain ⟨k, rfl, hk, hp, hO⟩ := hrel
    have HOr := Lib.hid hO
    have HP := Lib.hid hp
    clear hO hp
    by_cases hlt : k < l.length
    · obtain ⟨e, he⟩ : ∃ e, l[k]? = some e := ⟨_, List.getElem?_eq_getElem hlt⟩
      have hmem : e ∈ l := List.mem_of_getElem? he
      have HLe := Lib.hid (Ac.Li.keep _ _ _ (HR.out.sub e hmem) HOr.out)
      have hcall := HF.out e hmem
      have HTK := Lib.hid (show (l.take (k + 1)).all p = ((l.take k).all p && p e) from by rw [List.take_add_one, he, List.all_append]; simp)
      have HBAD := Lib.hid (show p e = false → l.all p = false from fun h => by rw [List.all_eq_false]; exact ⟨e, hmem, by rw [h]; decide⟩)
      have hrow := (HR.out.row k _ he).keep HOr.out
      obtain ⟨xk, xn, xm, xa, xb, xc, xd⟩ := e
      obtain ⟨b, o, rfl, hb, c0, c1, c2, c3, c4, c5, c6⟩ := Ac.at_cells hrow
      obtain ⟨pe, hpe⟩ : ∃ pe, p (.mk xk xn xm xa xb xc xd) = pe := ⟨_, rfl⟩
      rw [hpe] at hcall HTK HBAD
      have HCA := Lib.hid (show ∀ w', Ac.Li w' (.mk xk xn xm xa xb xc xd) → WordsIs w' → Calls Tryd.prog f #[.agg #[.int .i64 xk, .string xn, .string xm, .string xa, .string xb, .string xc, .string xd]] w' fun r w'' => r = .returned (.bool pe) ∧ Only [] w' w'' from hcall)
      have oA : Only [] wr (wr.alloc (.cells #[.int .i64 xk, .string xn, .string xm, .string xa, .string xb, .string xc, .string xd] 120)) := (Only.refl _ _).alloc _
      have HOA := Lib.hid oA
      clear he hmem hcall hpe oA hrow
      go_wp2_with (fail)
      refine (HCA.out _ (Ac.Li.keep _ _ _ HLe.out HOA.out) (HW.out.keep (HOr.out.trans HOA.out (by simp)))).mono ?_
      rintro r w3 ⟨rfl, o3⟩
      have HO3 := Lib.hid ((HOr.out.trans HOA.out (by simp)).trans o3 (by simp))
      clear o3 c0 c1 c2 c3 c4 c5 c6
      cases pe with
      | true =>
        go_wp2_with (fail)
        go_roundw
        case rel => exact ⟨k + 1, by go_num, by omega, by rw [HTK.out, HP.out]; rfl, HO3.out⟩
        case measure => simp [intOf]; omega
      | false =>
        go_wp2_with (fail)
        go_ret
        exact ⟨by rw [show l.all p = false from HBAD.out (by first | rfl | trivial)]; rfl, HO3.out⟩
    · obtain rfl : k = l.length := by omega
      go_wp2_with (fail)
      go_ret
      exact ⟨by have := HP.out; rw [List.take_length] at this; rw [this]; rfl, HOr.out⟩
set_option maxHeartbeats 4000000 in
theorem all_Ru (f : Nat) (p : Ru → Bool) (eg : ∀ args w, (callFunc f args).run Tryd.prog w = .ok (.enter f args) w) {A : Option Addr} {cap : Nat} {l : List Ru} {w : World} (hR : RowX Ru.cs 6 Ru.Li w A l) (hW : WordsIs w)
    (hf : ∀ a, a ∈ l → ∀ w', Ru.Li w' a → WordsIs w' → Calls Tryd.prog f #[a.val] w' fun r w'' => r = .returned (.bool (p a)) ∧ Only [] w' w'') :
    Calls Tryd.prog 91 #[.slice A l.length cap, .func (.func f) #[] #[]] w fun r w' => r = .returned (.bool (l.all p)) ∧ Only [] w w' := by
  have hlen := hR.len
  have HR := Lib.hid hR
  have HW := Lib.hid hW
  have HF := Lib.hid hf
  clear hR hW hf
  go_enter Tryd.func91, Tryd.ntmps91
  go_wp2_with (fail)
  go_loopw [9] (fun i wr => ∃ k : Nat, i = .int .i64 k ∧ k ≤ l.length ∧ (l.take k).all p = true ∧ Only [] w wr) (fun i _ => l.length - (intOf i).toNat)
  case atStart => exact ⟨0, rfl, Nat.zero_le _, by simp, Only.refl _ _⟩
  case round =>
    obtain ⟨k, rfl, hk, hp, hO⟩ := hrel
    have HOr := Lib.hid hO
    have HP := Lib.hid hp
    clear hO hp
    by_cases hlt : k < l.length
    · obtain ⟨e, he⟩ : ∃ e, l[k]? = some e := ⟨_, List.getElem?_eq_getElem hlt⟩
      have hmem : e ∈ l := List.mem_of_getElem? he
      have HLe := Lib.hid (Ru.Li.keep _ _ _ (HR.out.sub e hmem) HOr.out)
      have hcall := HF.out e hmem
      have HTK := Lib.hid (show (l.take (k + 1)).all p = ((l.take k).all p && p e) from by rw [List.take_add_one, he, List.all_append]; simp)
      have HBAD := Lib.hid (show p e = false → l.all p = false from fun h => by rw [List.all_eq_false]; exact ⟨e, hmem, by rw [h]; decide⟩)
      have hrow := (HR.out.row k _ he).keep HOr.out
      obtain ⟨xeo, xen, xes, xeu, xeA, xec, xel, xsA, xsc, xsl⟩ := e
      obtain ⟨b, o, rfl, hb, c0, c1, c2, c3, c4, c5⟩ := Ru.at_cells hrow
      obtain ⟨pe, hpe⟩ : ∃ pe, p (.mk xeo xen xes xeu xeA xec xel xsA xsc xsl) = pe := ⟨_, rfl⟩
      rw [hpe] at hcall HTK HBAD
      have HCA := Lib.hid (show ∀ w', Ru.Li w' (.mk xeo xen xes xeu xeA xec xel xsA xsc xsl) → WordsIs w' → Calls Tryd.prog f #[.agg #[.int .i64 xeo, .int .i64 xen, .string xes, .string xeu, .slice xeA xel.length xec, .slice xsA xsl.length xsc]] w' fun r w'' => r = .returned (.bool pe) ∧ Only [] w' w'' from hcall)
      have oA : Only [] wr (wr.alloc (.cells #[.int .i64 xeo, .int .i64 xen, .string xes, .string xeu, .slice xeA xel.length xec, .slice xsA xsl.length xsc] 77)) := (Only.refl _ _).alloc _
      have HOA := Lib.hid oA
      clear he hmem hcall hpe oA hrow
      go_wp2_with (fail)
      refine (HCA.out _ (Ru.Li.keep _ _ _ HLe.out HOA.out) (HW.out.keep (HOr.out.trans HOA.out (by simp)))).mono ?_
      rintro r w3 ⟨rfl, o3⟩
      have HO3 := Lib.hid ((HOr.out.trans HOA.out (by simp)).trans o3 (by simp))
      clear o3 c0 c1 c2 c3 c4 c5
      cases pe with
      | true =>
        go_wp2_with (fail)
        go_roundw
        case rel => exact ⟨k + 1, by go_num, by omega, by rw [HTK.out, HP.out]; rfl, HO3.out⟩
        case measure => simp [intOf]; omega
      | false =>
        go_wp2_with (fail)
        go_ret
        exact ⟨by rw [show l.all p = false from HBAD.out (by first | rfl | trivial)]; rfl, HO3.out⟩
    · obtain rfl : k = l.length := by omega
      go_wp2_with (fail)
      go_ret
      exact ⟨by have := HP.out; rw [List.take_length] at this; rw [this]; rfl, HOr.out⟩
set_option maxHeartbeats 4000000 in
theorem all_Md (f : Nat) (p : Md → Bool) (eg : ∀ args w, (callFunc f args).run Tryd.prog w = .ok (.enter f args) w) {A : Option Addr} {cap : Nat} {l : List Md} {w : World} (hR : RowX Md.cs 14 Md.Li w A l) (hW : WordsIs w)
    (hf : ∀ a, a ∈ l → ∀ w', Md.Li w' a → WordsIs w' → Calls Tryd.prog f #[a.val] w' fun r w'' => r = .returned (.bool (p a)) ∧ Only [] w' w'') :
    Calls Tryd.prog 47 #[.slice A l.length cap, .func (.func f) #[] #[]] w fun r w' => r = .returned (.bool (l.all p)) ∧ Only [] w w' := by
  have hlen := hR.len
  have HR := Lib.hid hR
  have HW := Lib.hid hW
  have HF := Lib.hid hf
  clear hR hW hf
  go_enter Tryd.func47, Tryd.ntmps47
  go_wp2_with (fail)
  go_loopw [9] (fun i wr => ∃ k : Nat, i = .int .i64 k ∧ k ≤ l.length ∧ (l.take k).all p = true ∧ Only [] w wr) (fun i _ => l.length - (intOf i).toNat)
  case atStart => exact ⟨0, rfl, Nat.zero_le _, by simp, Only.refl _ _⟩
  case round =>
    obtain ⟨k, rfl, hk, hp, hO⟩ := hrel
    have HOr := Lib.hid hO
    have HP := Lib.hid hp
    clear hO hp
    by_cases hlt : k < l.length
    · obtain ⟨e, he⟩ : ∃ e, l[k]? = some e := ⟨_, List.getElem?_eq_getElem hlt⟩
      have hmem : e ∈ l := List.mem_of_getElem? he
      have HLe := Lib.hid (Md.Li.keep _ _ _ (HR.out.sub e hmem) HOr.out)
      have hcall := HF.out e hmem
      have HTK := Lib.hid (show (l.take (k + 1)).all p = ((l.take k).all p && p e) from by rw [List.take_add_one, he, List.all_append]; simp)
      have HBAD := Lib.hid (show p e = false → l.all p = false from fun h => by rw [List.all_eq_false]; exact ⟨e, hmem, by rw [h]; decide⟩)
      have hrow := (HR.out.row k _ he).keep HOr.out
      obtain ⟨xn, xcp, xinsA, xinsc, xinsl, xoutsA, xoutsc, xoutsl, xvarsA, xvarsc, xvarsl, xtaA, xtac, xtal, xemitsA, xemitsc, xemitsl, xintA, xintc, xintl, xextA, xextc, xextl, xcon, xownA, xownc, xownl, xpartsA, xpartsc, xpartsl, xlinksA, xlinksc, xlinksl, xrulesA, xrulesc, xrulesl⟩ := e
      obtain ⟨b, o, rfl, hb, c0, c1, c2, c3, c4, c5, c6, c7, c8, c9, c10, c11, c12, c13⟩ := Md.at_cells hrow
      obtain ⟨pe, hpe⟩ : ∃ pe, p (.mk xn xcp xinsA xinsc xinsl xoutsA xoutsc xoutsl xvarsA xvarsc xvarsl xtaA xtac xtal xemitsA xemitsc xemitsl xintA xintc xintl xextA xextc xextl xcon xownA xownc xownl xpartsA xpartsc xpartsl xlinksA xlinksc xlinksl xrulesA xrulesc xrulesl) = pe := ⟨_, rfl⟩
      rw [hpe] at hcall HTK HBAD
      have HCA := Lib.hid (show ∀ w', Md.Li w' (.mk xn xcp xinsA xinsc xinsl xoutsA xoutsc xoutsl xvarsA xvarsc xvarsl xtaA xtac xtal xemitsA xemitsc xemitsl xintA xintc xintl xextA xextc xextl xcon xownA xownc xownl xpartsA xpartsc xpartsl xlinksA xlinksc xlinksl xrulesA xrulesc xrulesl) → WordsIs w' → Calls Tryd.prog f #[.agg #[.string xn, .bool xcp, .slice xinsA xinsl.length xinsc, .slice xoutsA xoutsl.length xoutsc, .slice xvarsA xvarsl.length xvarsc, .slice xtaA xtal.length xtac, .slice xemitsA xemitsl.length xemitsc, .slice xintA xintl.length xintc, .slice xextA xextl.length xextc, .int .i64 xcon, .slice xownA xownl.length xownc, .slice xpartsA xpartsl.length xpartsc, .slice xlinksA xlinksl.length xlinksc, .slice xrulesA xrulesl.length xrulesc]] w' fun r w'' => r = .returned (.bool pe) ∧ Only [] w' w'' from hcall)
      have oA : Only [] wr (wr.alloc (.cells #[.string xn, .bool xcp, .slice xinsA xinsl.length xinsc, .slice xoutsA xoutsl.length xoutsc, .slice xvarsA xvarsl.length xvarsc, .slice xtaA xtal.length xtac, .slice xemitsA xemitsl.length xemitsc, .slice xintA xintl.length xintc, .slice xextA xextl.length xextc, .int .i64 xcon, .slice xownA xownl.length xownc, .slice xpartsA xpartsl.length xpartsc, .slice xlinksA xlinksl.length xlinksc, .slice xrulesA xrulesl.length xrulesc] 70)) := (Only.refl _ _).alloc _
      have HOA := Lib.hid oA
      clear he hmem hcall hpe oA hrow
      go_wp2_with (fail)
      refine (HCA.out _ (Md.Li.keep _ _ _ HLe.out HOA.out) (HW.out.keep (HOr.out.trans HOA.out (by simp)))).mono ?_
      rintro r w3 ⟨rfl, o3⟩
      have HO3 := Lib.hid ((HOr.out.trans HOA.out (by simp)).trans o3 (by simp))
      clear o3 c0 c1 c2 c3 c4 c5 c6 c7 c8 c9 c10 c11 c12 c13
      cases pe with
      | true =>
        go_wp2_with (fail)
        go_roundw
        case rel => exact ⟨k + 1, by go_num, by omega, by rw [HTK.out, HP.out]; rfl, HO3.out⟩
        case measure => simp [intOf]; omega
      | false =>
        go_wp2_with (fail)
        go_ret
        exact ⟨by rw [show l.all p = false from HBAD.out (by first | rfl | trivial)]; rfl, HO3.out⟩
    · obtain rfl : k = l.length := by omega
      go_wp2_with (fail)
      go_ret
      exact ⟨by have := HP.out; rw [List.take_length] at this; rw [this]; rfl, HOr.out⟩
end Go.Proofs.YtfnacnlaphpflaaDoor
