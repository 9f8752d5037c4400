/- New, Len. -/
import Derived.Test.YtpedlapemgjgaaaPut
namespace Go.Proofs.Ytpedlapemgjgaaa
open Go.RowKit Go.Kx Go.Bag
set_option maxRecDepth 100000
set_option maxHeartbeats 1000000 in
theorem lenI {B : Nat} {w : World} {g : Nat} {L : List Int} {A : Option Addr} {c : Nat} (hT : BBI B w g L A c) :
    Calls Try.prog 16 #[.pointer (some ⟨g, 0, none⟩)] w fun e w' => e = .returned (.int .i64 (L.length : Nat)) ∧ w = w' := by
  obtain ⟨g0, g1, gl⟩ := hT.blk.facts2
  generalize L.length = n at g1 ⊢
  clear hT
  go_enter Try.func16, Try.ntmps16
  go_wp2_with (fail)
  go_ret
  exact ⟨rfl, rfl⟩
set_option maxHeartbeats 1000000 in
theorem newI {w : World} {Al : Option Addr} {nl cl : Nat} {M : List Int} (hM : RowC w Al (flat1 M)) (hn : M.length = nl) (hsum : nl ≤ 1000000) :
    Calls Try.prog 10 #[.func (.func 11) #[] #[], .slice Al nl cl] w fun e w' => e = .returned (.pointer (some ⟨w.heap.size, 0, none⟩)) ∧ (∃ A' c', BBI w.heap.size w' w.heap.size (st keyI M) A' c') ∧ Only [] w w' := by
  have o1 : Only [] w (w.alloc (.cells #[.func (.func 11) #[] #[], .slice none 0 0] 71)) := (Only.refl [] w).alloc _
  have hT : BBI w.heap.size (w.alloc (.cells #[.func (.func 11) #[] #[], .slice none 0 0] 71)) w.heap.size [] none 0 := ⟨Blk.new _ _ _, World.ownsRow_nil _ _ _ _, List.Pairwise.nil⟩
  have HP := Lib.hid (putI (cl := cl) hT (hM.only o1) hn (by simpa using hsum) (by have := o1.size; exact this))
  have HO := Lib.hid o1
  have hq : ∀ W, (binOp .eql 26 (.func (.func 11) #[] #[]) .nilFunc).run Try.prog W = .ok (.bool false) W := fun W => by
    have h : ∀ d, (Op.equalIn (d + 1) 26 (.func (.func 11) #[] #[]) .nilFunc).run Try.prog W = .ok false W := fun d => by simp [Op.equalIn, run_underlying Try.underlying26]
    simp only [binOp]
    simp [Op.equal, Op.maxDepth, h 9999]
  clear hT hM hn o1
  go_enter Try.func10, Try.ntmps10
  go_wp2_with (fail)
  refine HP.out.mono ?_
  rintro e w2 ⟨rfl, hb, o2⟩
  rw [List.nil_append] at hb
  have HB := Lib.hid hb
  have HO2 := Lib.hid (show Only [] w w2 from HO.out.trans o2 (fun x hx => .inr (by simp at hx; omega)))
  clear hb o2
  go_wp2_with (fail)
  go_ret
  exact ⟨rfl, HB.out, HO2.out⟩
set_option maxHeartbeats 1000000 in
theorem lenJ {B : Nat} {w : World} {g : Nat} {L : List Ent} {A : Option Addr} {c : Nat} (hT : BBJ B w g L A c) :
    Calls Try.prog 34 #[.pointer (some ⟨g, 0, none⟩)] w fun e w' => e = .returned (.int .i64 (L.length : Nat)) ∧ w = w' := by
  obtain ⟨g0, g1, gl⟩ := hT.blk.facts2
  generalize L.length = n at g1 ⊢
  clear hT
  go_enter Try.func34, Try.ntmps34
  go_wp2_with (fail)
  go_ret
  exact ⟨rfl, rfl⟩
set_option maxHeartbeats 1000000 in
theorem newJ {w : World} {Al : Option Addr} {nl cl : Nat} {M : List Ent} (hM : RowC w Al (flat2 M)) (hn : M.length = nl) (hsum : nl ≤ 1000000) :
    Calls Try.prog 21 #[.func (.func 22) #[] #[], .slice Al nl cl] w fun e w' => e = .returned (.pointer (some ⟨w.heap.size, 0, none⟩)) ∧ (∃ A' c', BBJ w.heap.size w' w.heap.size (st keyJ M) A' c') ∧ Only [] w w' := by
  have o1 : Only [] w (w.alloc (.cells #[.func (.func 22) #[] #[], .slice none 0 0] 76)) := (Only.refl [] w).alloc _
  have hT : BBJ w.heap.size (w.alloc (.cells #[.func (.func 22) #[] #[], .slice none 0 0] 76)) w.heap.size [] none 0 := ⟨Blk.new _ _ _, World.ownsRow_nil _ _ _ _, List.Pairwise.nil⟩
  have HP := Lib.hid (putJ (cl := cl) hT (hM.only o1) hn (by simpa using hsum) (by have := o1.size; exact this))
  have HO := Lib.hid o1
  have hq : ∀ W, (binOp .eql 50 (.func (.func 22) #[] #[]) .nilFunc).run Try.prog W = .ok (.bool false) W := fun W => by
    have h : ∀ d, (Op.equalIn (d + 1) 50 (.func (.func 22) #[] #[]) .nilFunc).run Try.prog W = .ok false W := fun d => by simp [Op.equalIn, run_underlying Try.underlying50]
    simp only [binOp]
    simp [Op.equal, Op.maxDepth, h 9999]
  clear hT hM hn o1
  go_enter Try.func21, Try.ntmps21
  go_wp2_with (fail)
  refine HP.out.mono ?_
  rintro e w2 ⟨rfl, hb, o2⟩
  rw [List.nil_append] at hb
  have HB := Lib.hid hb
  have HO2 := Lib.hid (show Only [] w w2 from HO.out.trans o2 (fun x hx => .inr (by simp at hx; omega)))
  clear hb o2
  go_wp2_with (fail)
  go_ret
  exact ⟨rfl, HB.out, HO2.out⟩
end Go.Proofs.Ytpedlapemgjgaaa
