/- first. -/
import Derived.Test.YtjhpckeoackblaaDoorNms
namespace Go.Proofs.YtjhpckeoackblaaDoor
open Go.RowKit Go.Kx
open Go.Val (Tt)
set_option maxRecDepth 100000
theorem _root_.Go.Kx.Blk.facts3 {w : World} {g : Nat} {t : TypeId} {a b c : Value} (h : Blk w g t #[a, b, c]) : w.cell? ⟨g, 0, none⟩ = some a ∧ w.cell? ⟨g, 1, none⟩ = some b ∧ w.cell? ⟨g, 2, none⟩ = some c ∧ g < w.heap.size := ⟨h.cell 0, h.cell 1, h.cell 2, h.lt⟩
theorem find_at {α : Type} {p : α → Bool} {l : List α} {k : Nat} {v : α} (h : (l.take k).all (fun x => !p x) = true) (hv : l[k]? = some v) (hp : p v = true) : l.find? p = some v := by
  have hl := (List.getElem?_eq_some_iff.1 hv).1
  have e : l = l.take k ++ v :: l.drop (k + 1) := by
    conv => lhs; rw [← List.take_append_drop k l]
    congr 1
    rw [List.drop_eq_getElem_cons hl]
    congr 1
    exact (List.getElem?_eq_some_iff.1 hv).2
  rw [e, List.find?_append]
  have : (l.take k).find? p = none := List.find?_eq_none.2 fun x hx => by
    have := List.all_eq_true.1 h x hx
    simpa using this
  rw [this, Option.none_or, List.find?_cons_of_pos hp]
theorem find_no {α : Type} {p : α → Bool} {l : List α} (h : l.all (fun x => !p x) = true) : l.find? p = none := List.find?_eq_none.2 fun x hx => by
  have := List.all_eq_true.1 h x hx
  simpa using this
def fstVr (o : Option Vr) : Value := match o with | some v => .tuple #[v.val, .bool true] | none => .tuple #[(default : Vr).val, .bool false]
set_option maxHeartbeats 4000000 in
theorem firstVr (f : Nat) (lb : Array Value) (p : Vr → Bool) (eg : ∀ args w, (callFunc f args).run Tryd.prog w = .ok (.enter f args) w) {A : Option Addr} {cap : Nat} {l : List Vr} {w : World} (hR : RowVr w A l) (hl : l.length ≤ 1000000)
    (hf : ∀ v ∈ l, ∀ W, Only [] w W → Calls Tryd.prog f (#[v.val] ++ lb) W fun r w' => r = .returned (.bool (p v)) ∧ Only [] W w') :
    Calls Tryd.prog 42 #[.slice A l.length cap, .func (.func f) #[] lb] w fun r w' => r = .returned (fstVr (l.find? p)) ∧ Only [] w w' := by
  have HR := Lib.hid hR
  have HF := Lib.hid hf
  obtain ⟨n, hn⟩ : ∃ n, l.length = n := ⟨_, rfl⟩
  have HN := Lib.hid hn
  rw [hn] at hl ⊢
  have HB0 := Lib.hid (Blk.new w 54 #[.string ⟨#[]⟩, .string ⟨#[]⟩, .int .i64 0, .slice none 0 0])
  have HO0 := Lib.hid (show Only [] w (w.alloc (.cells #[.string ⟨#[]⟩, .string ⟨#[]⟩, .int .i64 0, .slice none 0 0] 54)) from (Only.refl _ _).alloc _)
  clear hR hf hn
  go_enter Tryd.func42, Tryd.ntmps42
  go_wp2_with (fail)
  go_loopw [11] (fun i wr => ∃ k : Nat, i = .int .i64 k ∧ k ≤ n ∧ Hid ((l.take k).all (fun x => !p x) = true) ∧ Hid (Blk wr w.heap.size 54 #[.string ⟨#[]⟩, .string ⟨#[]⟩, .int .i64 0, .slice none 0 0]) ∧ Hid (Only [] w wr)) (fun i _ => n - (intOf i).toNat)
  case atStart => exact ⟨0, rfl, Nat.zero_le _, Lib.hid (by simp), HB0, HO0⟩
  case round =>
    obtain ⟨k, rfl, hk, HP, HQ, HOr⟩ := hrel
    by_cases hlt : k < n
    · obtain ⟨e, he⟩ : ∃ e, l[k]? = some e := ⟨_, List.getElem?_eq_getElem (by rw [HN.out]; exact hlt)⟩
      have hmem : e ∈ l := List.mem_of_getElem? he
      have hcall := HF.out e hmem
      have HTK := Lib.hid (show (l.take (k + 1)).all (fun x => !p x) = ((l.take k).all (fun x => !p x) && !p e) from by rw [List.take_add_one, he, List.all_append]; simp)
      have HFD := Lib.hid (fun (h : p e = true) => find_at HP.out he h)
      have hrow := (HR.out.row k _ he).keep HOr.out
      obtain ⟨pe, hpe⟩ : ∃ pe, p e = pe := ⟨_, rfl⟩
      rw [hpe] at hcall HTK HFD
      obtain ⟨xp, xs, xk, xA, xcap, xl⟩ := e
      obtain ⟨bb, o, rfl, hbb, c0, c1, c2, c3⟩ := hrow.cells
      have HCA := Lib.hid (show ∀ W, Only [] w W → Calls Tryd.prog f (#[.agg #[.string xp, .string xs, .int .i64 xk, .slice xA xl.length xcap]] ++ lb) W fun r w' => r = .returned (.bool pe) ∧ Only [] W w' from hcall)
      have HX0 := Lib.hid (Blk.new wr 54 #[.string xp, .string xs, .int .i64 xk, .slice xA xl.length xcap])
      have HOA := Lib.hid (show Only [] wr (wr.alloc (.cells #[.string xp, .string xs, .int .i64 xk, .slice xA xl.length xcap] 54)) from (Only.refl _ _).alloc _)
      have ik0 : (0 : Int) ≤ (k : Int) := by omega
      have ik1 : (k : Int) < (n : Int) := by omega
      clear he hmem hcall hpe hrow
      go_wp2_with (fail)
      refine (HCA.out _ (HOr.out.trans HOA.out (by simp))).mono ?_
      rintro r w3 ⟨rfl, o3⟩
      have HO3 := Lib.hid ((HOr.out.trans HOA.out (by simp)).trans o3 (by simp))
      have HX3 := Lib.hid (o3.blk HX0.out (by simp))
      have HQ3 := Lib.hid ((HOA.out.trans o3 (by simp)).blk HQ.out (by simp))
      clear o3 c0 c1 c2 c3
      cases pe with
      | false =>
        go_wp2_with (fail)
        go_roundw
        case rel => exact ⟨k + 1, by go_num, by omega, Lib.hid (by rw [HTK.out, HP.out]; rfl), HQ3, HO3⟩
        case measure => simp [intOf]; omega
      | true =>
        obtain ⟨b0, b1, b2, b3, bl⟩ := HX3.out.facts4
        obtain ⟨r0, r1, r2, r3, rl⟩ := HQ3.out.facts4
        have g0 := HQ3.out.frozen 0
        have g1 := HQ3.out.frozen 1
        have g2 := HQ3.out.frozen 2
        have g3 := HQ3.out.frozen 3
        go_wp2_with (fail)
        have hb5 := ((((HQ3.out.set_ 0 (.string xp)).set_ 1 (.string xs)).set_ 2 (.int .i64 xk)).set_ 3 (.slice xA xl.length xcap))
        obtain ⟨e0, e1, e2, e3, -⟩ := Blk.facts4 (a := .string xp) (b := .string xs) (c := .int .i64 xk) (d := .slice xA xl.length xcap) hb5
        refine bodyPost_ret (v := .tuple #[.agg #[.string xp, .string xs, .int .i64 xk, .slice xA xl.length xcap], .bool true]) (by simp [results, Tryd.results42, go_sem, e0, e1, e2, e3]) rfl ?_
        refine ⟨by rw [HFD.out (by first | rfl | trivial)]; rfl, HO3.out.trans (((((Only.refl [w.heap.size] _).setCell (p := ⟨w.heap.size, 0, none⟩) (.inl (by simp)) (.string xp)).setCell (p := ⟨w.heap.size, 1, none⟩) (.inl (by simp)) (.string xs)).setCell (p := ⟨w.heap.size, 2, none⟩) (.inl (by simp)) (.int .i64 xk)).setCell (p := ⟨w.heap.size, 3, none⟩) (.inl (by simp)) (.slice xA xl.length xcap)) (fun b hb => .inr (by simp at hb; omega))⟩
    · have hke : k = n := by omega
      have iz : ¬ (n : Int) < (n : Int) := by omega
      have HE := Lib.hid (show l.find? p = none by
        have h := HP.out
        rw [hke, List.take_of_length_le (by rw [HN.out]; exact Nat.le_refl _)] at h
        exact find_no h)
      rw [hke]
      clear hke hlt hk
      obtain ⟨r0, r1, r2, r3, rl⟩ := HQ.out.facts4
      have g0 := HQ.out.frozen 0
      have g1 := HQ.out.frozen 1
      have g2 := HQ.out.frozen 2
      have g3 := HQ.out.frozen 3
      go_wp2_with (fail)
      have hb5 := Blk.alloc ((((HQ.out.set_ 0 (.string ⟨#[]⟩)).set_ 1 (.string ⟨#[]⟩)).set_ 2 (.int .i64 0)).set_ 3 (.slice none 0 0)) (.cells #[.string ⟨#[]⟩, .string ⟨#[]⟩, .int .i64 0, .slice none 0 0] 54)
      obtain ⟨e0, e1, e2, e3, -⟩ := Blk.facts4 (a := .string ⟨#[]⟩) (b := .string ⟨#[]⟩) (c := .int .i64 0) (d := .slice none 0 0) hb5
      refine bodyPost_ret (v := .tuple #[.agg #[.string ⟨#[]⟩, .string ⟨#[]⟩, .int .i64 0, .slice none 0 0], .bool false]) (by simp [results, Tryd.results42, go_sem, e0, e1, e2, e3]) rfl ?_
      refine ⟨by rw [HE.out]; rfl, HOr.out.trans ((((((Only.refl [w.heap.size] _).setCell (p := ⟨w.heap.size, 0, none⟩) (.inl (by simp)) (.string ⟨#[]⟩)).setCell (p := ⟨w.heap.size, 1, none⟩) (.inl (by simp)) (.string ⟨#[]⟩)).setCell (p := ⟨w.heap.size, 2, none⟩) (.inl (by simp)) (.int .i64 0)).setCell (p := ⟨w.heap.size, 3, none⟩) (.inl (by simp)) (.slice none 0 0)).alloc (.cells #[.string ⟨#[]⟩, .string ⟨#[]⟩, .int .i64 0, .slice none 0 0] 54)) (fun b hb => .inr (by simp at hb; omega))⟩
def fstPr (o : Option Pr) : Value := match o with | some v => .tuple #[v.val, .bool true] | none => .tuple #[(default : Pr).val, .bool false]
set_option maxHeartbeats 4000000 in
theorem firstPr (f : Nat) (lb : Array Value) (p : Pr → Bool) (eg : ∀ args w, (callFunc f args).run Tryd.prog w = .ok (.enter f args) w) {A : Option Addr} {cap : Nat} {l : List Pr} {w : World} (hR : RowPr w A l) (hl : l.length ≤ 1000000)
    (hf : ∀ v ∈ l, ∀ W, Only [] w W → Calls Tryd.prog f (#[v.val] ++ lb) W fun r w' => r = .returned (.bool (p v)) ∧ Only [] W w') :
    Calls Tryd.prog 54 #[.slice A l.length cap, .func (.func f) #[] lb] w fun r w' => r = .returned (fstPr (l.find? p)) ∧ Only [] w w' := by
  have HR := Lib.hid hR
  have HF := Lib.hid hf
  obtain ⟨n, hn⟩ : ∃ n, l.length = n := ⟨_, rfl⟩
  have HN := Lib.hid hn
  rw [hn] at hl ⊢
  have HB0 := Lib.hid (Blk.new w 68 #[.string ⟨#[]⟩, .int .i64 0, .slice none 0 0])
  have HO0 := Lib.hid (show Only [] w (w.alloc (.cells #[.string ⟨#[]⟩, .int .i64 0, .slice none 0 0] 68)) from (Only.refl _ _).alloc _)
  clear hR hf hn
  go_enter Tryd.func54, Tryd.ntmps54
  go_wp2_with (fail)
  go_loopw [11] (fun i wr => ∃ k : Nat, i = .int .i64 k ∧ k ≤ n ∧ Hid ((l.take k).all (fun x => !p x) = true) ∧ Hid (Blk wr w.heap.size 68 #[.string ⟨#[]⟩, .int .i64 0, .slice none 0 0]) ∧ Hid (Only [] w wr)) (fun i _ => n - (intOf i).toNat)
  case atStart => exact ⟨0, rfl, Nat.zero_le _, Lib.hid (by simp), HB0, HO0⟩
  case round =>
    obtain ⟨k, rfl, hk, HP, HQ, HOr⟩ := hrel
    by_cases hlt : k < n
    · obtain ⟨e, he⟩ : ∃ e, l[k]? = some e := ⟨_, List.getElem?_eq_getElem (by rw [HN.out]; exact hlt)⟩
      have hmem : e ∈ l := List.mem_of_getElem? he
      have hcall := HF.out e hmem
      have HTK := Lib.hid (show (l.take (k + 1)).all (fun x => !p x) = ((l.take k).all (fun x => !p x) && !p e) from by rw [List.take_add_one, he, List.all_append]; simp)
      have HFD := Lib.hid (fun (h : p e = true) => find_at HP.out he h)
      have hrow := (HR.out.row k _ he).keep HOr.out
      obtain ⟨pe, hpe⟩ : ∃ pe, p e = pe := ⟨_, rfl⟩
      rw [hpe] at hcall HTK HFD
      obtain ⟨xs, xk, xA, xcap, xl⟩ := e
      obtain ⟨bb, o, rfl, hbb, c0, c1, c2⟩ := hrow.cells
      have HCA := Lib.hid (show ∀ W, Only [] w W → Calls Tryd.prog f (#[.agg #[.string xs, .int .i64 xk, .slice xA xl.length xcap]] ++ lb) W fun r w' => r = .returned (.bool pe) ∧ Only [] W w' from hcall)
      have HX0 := Lib.hid (Blk.new wr 68 #[.string xs, .int .i64 xk, .slice xA xl.length xcap])
      have HOA := Lib.hid (show Only [] wr (wr.alloc (.cells #[.string xs, .int .i64 xk, .slice xA xl.length xcap] 68)) from (Only.refl _ _).alloc _)
      have ik0 : (0 : Int) ≤ (k : Int) := by omega
      have ik1 : (k : Int) < (n : Int) := by omega
      clear he hmem hcall hpe hrow
      go_wp2_with (fail)
      refine (HCA.out _ (HOr.out.trans HOA.out (by simp))).mono ?_
      rintro r w3 ⟨rfl, o3⟩
      have HO3 := Lib.hid ((HOr.out.trans HOA.out (by simp)).trans o3 (by simp))
      have HX3 := Lib.hid (o3.blk HX0.out (by simp))
      have HQ3 := Lib.hid ((HOA.out.trans o3 (by simp)).blk HQ.out (by simp))
      clear o3 c0 c1 c2
      cases pe with
      | false =>
        go_wp2_with (fail)
        go_roundw
        case rel => exact ⟨k + 1, by go_num, by omega, Lib.hid (by rw [HTK.out, HP.out]; rfl), HQ3, HO3⟩
        case measure => simp [intOf]; omega
      | true =>
        obtain ⟨b0, b1, b2, bl⟩ := HX3.out.facts3
        obtain ⟨r0, r1, r2, rl⟩ := HQ3.out.facts3
        have g0 := HQ3.out.frozen 0
        have g1 := HQ3.out.frozen 1
        have g2 := HQ3.out.frozen 2
        go_wp2_with (fail)
        have hb5 := (((HQ3.out.set_ 0 (.string xs)).set_ 1 (.int .i64 xk)).set_ 2 (.slice xA xl.length xcap))
        obtain ⟨e0, e1, e2, -⟩ := Blk.facts3 (a := .string xs) (b := .int .i64 xk) (c := .slice xA xl.length xcap) hb5
        refine bodyPost_ret (v := .tuple #[.agg #[.string xs, .int .i64 xk, .slice xA xl.length xcap], .bool true]) (by simp [results, Tryd.results54, go_sem, e0, e1, e2]) rfl ?_
        refine ⟨by rw [HFD.out (by first | rfl | trivial)]; rfl, HO3.out.trans ((((Only.refl [w.heap.size] _).setCell (p := ⟨w.heap.size, 0, none⟩) (.inl (by simp)) (.string xs)).setCell (p := ⟨w.heap.size, 1, none⟩) (.inl (by simp)) (.int .i64 xk)).setCell (p := ⟨w.heap.size, 2, none⟩) (.inl (by simp)) (.slice xA xl.length xcap)) (fun b hb => .inr (by simp at hb; omega))⟩
    · have hke : k = n := by omega
      have iz : ¬ (n : Int) < (n : Int) := by omega
      have HE := Lib.hid (show l.find? p = none by
        have h := HP.out
        rw [hke, List.take_of_length_le (by rw [HN.out]; exact Nat.le_refl _)] at h
        exact find_no h)
      rw [hke]
      clear hke hlt hk
      obtain ⟨r0, r1, r2, rl⟩ := HQ.out.facts3
      have g0 := HQ.out.frozen 0
      have g1 := HQ.out.frozen 1
      have g2 := HQ.out.frozen 2
      go_wp2_with (fail)
      have hb5 := Blk.alloc (((HQ.out.set_ 0 (.string ⟨#[]⟩)).set_ 1 (.int .i64 0)).set_ 2 (.slice none 0 0)) (.cells #[.string ⟨#[]⟩, .int .i64 0, .slice none 0 0] 68)
      obtain ⟨e0, e1, e2, -⟩ := Blk.facts3 (a := .string ⟨#[]⟩) (b := .int .i64 0) (c := .slice none 0 0) hb5
      refine bodyPost_ret (v := .tuple #[.agg #[.string ⟨#[]⟩, .int .i64 0, .slice none 0 0], .bool false]) (by simp [results, Tryd.results54, go_sem, e0, e1, e2]) rfl ?_
      refine ⟨by rw [HE.out]; rfl, HOr.out.trans (((((Only.refl [w.heap.size] _).setCell (p := ⟨w.heap.size, 0, none⟩) (.inl (by simp)) (.string ⟨#[]⟩)).setCell (p := ⟨w.heap.size, 1, none⟩) (.inl (by simp)) (.int .i64 0)).setCell (p := ⟨w.heap.size, 2, none⟩) (.inl (by simp)) (.slice none 0 0)).alloc (.cells #[.string ⟨#[]⟩, .int .i64 0, .slice none 0 0] 68)) (fun b hb => .inr (by simp at hb; omega))⟩
end Go.Proofs.YtjhpckeoackblaaDoor
