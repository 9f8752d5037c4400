/- awake. -/
import Derived.Test.YtgpljjejfebhoaaDoorRText
import Derived.Test.YtgpljjejfebhoaaDoorCopy
namespace Go.Proofs.YtgpljjejfebhoaaDoor
open Go.RowKit Go.Kx Go.Val
set_option maxRecDepth 100000
theorem row_flatV {w : World} {g : Nat} {L : List Vx} (h : Blk w g 34 (L.flatMap Vx.cs).toArray) : ∀ i e, L[i]? = some e → RowAtV w (some ⟨g, 0, none⟩) i e := by
  have key : ∀ (L : List Vx) (i j : Nat) (e : Vx) (u : Value), L[i]? = some e → e.cs[j]? = some u → (L.flatMap Vx.cs)[i * 4 + j]? = some u := by
    intro L
    induction L with
    | nil => intro i j e u hi; simp at hi
    | cons a L ih =>
      intro i j e u hi hu
      have hl : a.cs.length = 4 := by cases a; rfl
      cases i with
      | zero =>
        simp at hi
        subst hi
        rw [List.flatMap_cons, Nat.zero_mul, Nat.zero_add, List.getElem?_append_left (List.getElem?_eq_some_iff.1 hu).1]
        exact hu
      | succ i =>
        rw [List.flatMap_cons, List.getElem?_append_right (by omega), hl, show (i + 1) * 4 + j - 4 = i * 4 + j by omega]
        exact ih i j e u (by simpa using hi) hu
  intro i e hi
  exact ⟨g, 0, rfl, h.lt, fun j v hv => (h.cell _).trans (by rw [Nat.zero_add, List.getElem?_toArray]; exact key L i j e v hi hv)⟩
def exV (g : Nat) : Vx := .mk 3 0 ⟨#[]⟩ (some ⟨g, 0, none⟩) 2 [.mk 0 1 ⟨#[]⟩ none 0 [], .mk 2 0 ⟨#[97]⟩ none 0 []]
def exT : Vt := .mk 3 0 [] [.mk 0 1 [] [], .mk 2 0 [97] []]
theorem exV_tr (g : Nat) : (exV g).tr = exT := by
  simp [exV, Vx.tr_mk, exT]
theorem leaf_lies (k n : Int) (s : ByteArray) (h : I64 k ∧ I64 n ∧ s.size ≤ 9223372036854775807) (w : World) : LiesV w (.mk k n s none 0 []) := .mk h (by simp) (fun i e h => by simp at h) (fun e h => by simp at h)
theorem exV_lies {w : World} {g : Nat} (h : Blk w g 34 ([.mk 0 1 ⟨#[]⟩ none 0 [], .mk 2 0 ⟨#[97]⟩ none 0 []].flatMap Vx.cs).toArray) : LiesV w (exV g) :=
  .mk ⟨by unfold I64; omega, by unfold I64; omega, by decide⟩ (by simp) (row_flatV h) (fun e he => by
    simp at he
    rcases he with rfl | rfl
    · exact leaf_lies _ _ _ ⟨by unfold I64; omega, by unfold I64; omega, by decide⟩ _
    · exact leaf_lies _ _ _ ⟨by unfold I64; omega, by unfold I64; omega, by decide⟩ _)
theorem exV_sm (g : Nat) : (exV g).sm = true := by simp [exV, Vx.sm]
theorem itoa_one : Lib.itoa 1 = [49] := by
  rcases itoa_form 1 with ⟨-, e⟩ | ⟨h, -⟩
  · rw [e, Lib.decDigits, dif_pos (by decide)]
    rfl
  · omega
theorem nm_a : nameB [97] = true := by kernel_rfl
theorem exT_ok : exT.ok 3 = true := by
  simp [exT, Vt.ok_mk, okN, nm_a]
theorem exT_text : exT.text = [40, 49, 44, 32, 39, 97, 41] := by
  unfold Vt.text
  rw [if_pos exT_ok]
  simp [exT, Vt.txt3, Vt.txt0, Vt.txt2, itoa_one, tupS, joinS]
theorem exT_typ : exT.typ = .mk 3 [.mk 0 [], .mk 2 []] := by
  unfold Vt.typ
  rw [if_pos exT_ok]
  simp [exT, Vt.ty_mk]
theorem exT_ttext : exT.typ.text = [40, 105, 110, 116, 44, 32, 115, 121, 109, 41] := by
  have h : (Tt.mk 3 [.mk 0 [], .mk 2 []]).ok 3 = true := by simp [Tt.ok_mk, okK]
  rw [exT_typ]
  unfold Tt.text
  rw [if_pos h]
  simp [Tt.txt3, Tt.txt0, Tt.txt2, tupS, joinS]
theorem nm_a1 : nameB (ByteArray.toList ⟨#[97, 49]⟩) = true := by rw [ByteArray.toList_eq]; kernel_rfl
theorem nm_1a : nameB (ByteArray.toList ⟨#[49, 97]⟩) = false := by rw [ByteArray.toList_eq]; kernel_rfl
set_option maxHeartbeats 4000000 in
theorem awake_any {w : World} (hW : Tab10 w) : Calls Tryd.prog 9 #[] w fun r w' => r = .returned (.bool true) ∧ Only [] w w' := by
  have HW := Lib.hid hW
  clear hW
  go_enter Tryd.func9, Tryd.ntmps9
  go_wp2_with (fail)
  obtain ⟨g, hg⟩ : ∃ g, w.heap.size = g := ⟨_, rfl⟩
  have q1 := Blk.new w 34 #[.int .i64 0, .int .i64 1, .string ⟨#[]⟩, .slice none 0 0, .int .i64 2, .int .i64 0, .string ⟨#[97]⟩, .slice none 0 0]
  have o4 : Only [] w (w.alloc (.cells #[.int .i64 0, .int .i64 1, .string ⟨#[]⟩, .slice none 0 0, .int .i64 2, .int .i64 0, .string ⟨#[97]⟩, .slice none 0 0] 34)) := (Only.refl _ _).alloc _
  have hs4 : (w.alloc (.cells #[.int .i64 0, .int .i64 1, .string ⟨#[]⟩, .slice none 0 0, .int .i64 2, .int .i64 0, .string ⟨#[97]⟩, .slice none 0 0] 34)).heap.size = g + 1 := by rw [← hg]; simp
  rw [hg] at q1 ⊢
  generalize w.alloc (.cells #[.int .i64 0, .int .i64 1, .string ⟨#[]⟩, .slice none 0 0, .int .i64 2, .int .i64 0, .string ⟨#[97]⟩, .slice none 0 0] 34) = w4 at q1 o4 hs4 ⊢
  have q3 := Blk.new w4 34 #[.int .i64 3, .int .i64 0, .string ⟨#[]⟩, .slice (some ⟨g, 0, none⟩) 2 2]
  have o6 : Only [] w4 (w4.alloc (.cells #[.int .i64 3, .int .i64 0, .string ⟨#[]⟩, .slice (some ⟨g, 0, none⟩) 2 2] 34)) := (Only.refl _ _).alloc _
  rw [hs4] at q3
  have hL := exV_lies (o6.blk q1 (by simp))
  generalize w4.alloc (.cells #[.int .i64 3, .int .i64 0, .string ⟨#[]⟩, .slice (some ⟨g, 0, none⟩) 2 2] 34) = w6 at q3 o6 hL ⊢
  have HO6 := Lib.hid (o4.trans o6 (by simp))
  have HL := Lib.hid hL
  have HQ := Lib.hid q3
  clear q1 q3 o4 o6 hs4 hL hg
  have c1 : ∀ W, Only [] w6 W → Calls Tryd.prog 21 #[.agg #[.int .i64 3, .int .i64 0, .string ⟨#[]⟩, .slice (some ⟨g, 0, none⟩) 2 2]] W fun r w' => r = .returned (.bool true) ∧ Only [] W w' := fun W o => (topV (HL.out.keep o)).mono (by rintro r w' ⟨rfl, o⟩; exact ⟨by rw [exV_tr, exT_ok], o⟩)
  have c2 : ∀ W, Only [] w6 W → Calls Tryd.prog 25 #[.agg #[.int .i64 3, .int .i64 0, .string ⟨#[]⟩, .slice (some ⟨g, 0, none⟩) 2 2]] W fun r w' => r = .returned (.string ⟨#[40, 49, 44, 32, 39, 97, 41]⟩) ∧ Only [] W w' := fun W o => (totextV (HL.out.keep o) (HW.out.only (HO6.out.trans o (by simp)))).mono (by rintro r w' ⟨rfl, o⟩; exact ⟨by rw [exV_tr, exT_text]; rfl, o⟩)
  have c3 : ∀ W, Only [] w6 W → Calls Tryd.prog 24 #[.agg #[.int .i64 3, .int .i64 0, .string ⟨#[]⟩, .slice (some ⟨g, 0, none⟩) 2 2]] W fun r w' => ∃ yk yA ycap yl, r = .returned (.agg #[.int .i64 yk, .slice yA (List.length yl) ycap]) ∧ Hid (CpT W.heap.size w' exT.typ (.mk yk yA ycap yl)) ∧ Only [] W w' := fun W o => (totypeV (HL.out.keep o) (exV_sm g)).mono (by
    rintro r w' ⟨⟨yk, yA, ycap, yl⟩, rfl, hc, o⟩
    rw [exV_tr] at hc
    exact ⟨yk, yA, ycap, yl, rfl, Lib.hid hc, o⟩)
  have c5 : ∀ W, Only [] w6 W → Calls Tryd.prog 10 #[.string ⟨#[97, 49]⟩] W fun r w' => r = .returned (.bool true) ∧ Only [] W w' := fun W o => (name_any (by decide)).mono (by rintro r w' ⟨rfl, o⟩; exact ⟨by rw [nm_a1], o⟩)
  have c6 : ∀ W, Only [] w6 W → Calls Tryd.prog 10 #[.string ⟨#[49, 97]⟩] W fun r w' => r = .returned (.bool false) ∧ Only [] W w' := fun W o => (name_any (by decide)).mono (by rintro r w' ⟨rfl, o⟩; exact ⟨by rw [nm_1a], o⟩)
  have C2 := Lib.hid c2
  have C3 := Lib.hid c3
  have C5 := Lib.hid c5
  have C6 := Lib.hid c6
  obtain ⟨b0, b1, b2, b3, bl⟩ := HQ.out.facts4
  refine (c1 _ (Only.refl _ _)).mono ?_
  clear c1 c2 c3 c5 c6
  rintro r w7 ⟨rfl, o7⟩
  have O7 := Lib.hid o7
  clear o7 b0 b1 b2 b3 bl
  obtain ⟨b0, b1, b2, b3, bl⟩ := (O7.out.blk HQ.out (by simp)).facts4
  go_wp2_with (fail)
  refine (C2.out _ O7.out).mono ?_
  rintro r w8 ⟨rfl, o8⟩
  have O8 := Lib.hid (O7.out.trans o8 (by simp))
  clear o8 b0 b1 b2 b3 bl
  obtain ⟨b0, b1, b2, b3, bl⟩ := (O8.out.blk HQ.out (by simp)).facts4
  go_wp2_with (fail)
  refine (C3.out _ O8.out).mono ?_
  rintro r w9 ⟨yk, yA, ycap, yl, rfl, hc, o9⟩
  have O9 := Lib.hid (O8.out.trans o9 (by simp))
  have C4 := Lib.hid (show Calls Tryd.prog 17 #[.agg #[.int .i64 yk, .slice yA yl.length ycap]] w9 fun r w' => r = .returned (.string ⟨#[40, 105, 110, 116, 44, 32, 115, 121, 109, 41]⟩) ∧ Only [] w9 w' from (totextT hc.out.lies).mono (by rintro r w' ⟨rfl, o⟩; exact ⟨by rw [hc.out.tr, exT_ttext]; rfl, o⟩))
  clear o9 b0 b1 b2 b3 bl hc
  go_wp2_with (fail)
  refine C4.out.mono ?_
  rintro r w10 ⟨rfl, o10⟩
  have O10 := Lib.hid (O9.out.trans o10 (by simp))
  clear o10 C4
  go_wp2_with (fail)
  refine (C5.out _ O10.out).mono ?_
  rintro r w13 ⟨rfl, o13⟩
  have O13 := Lib.hid (O10.out.trans o13 (by simp))
  clear o13
  go_wp2_with (fail)
  refine (C6.out _ O13.out).mono ?_
  rintro r w14 ⟨rfl, o14⟩
  have O14 := Lib.hid (O13.out.trans o14 (by simp))
  clear o14
  go_wp2_with (fail)
  go_ret
  exact ⟨rfl, HO6.out.trans O14.out (by simp)⟩
end Go.Proofs.YtgpljjejfebhoaaDoor
