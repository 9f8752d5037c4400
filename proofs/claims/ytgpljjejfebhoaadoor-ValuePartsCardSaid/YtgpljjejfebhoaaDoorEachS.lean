/- Texts: each, tuple. -/
import Derived.Test.YtgpljjejfebhoaaDoorRight
import Derived.Test.YtgpljjejfebhoaaDoorShelf
import Derived.Lib.ItoaLen
namespace Go.Proofs.YtgpljjejfebhoaaDoor
open Go.RowKit Go.Kx Go.Val
set_option maxRecDepth 100000
theorem str_info : ((Tryd.prog.info? 9).map fun i => (i.zero, i.size, i.bytes)) = some (some (.string ⟨#[]⟩), 1, 16) := by kernel_rfl
/-- a text as the program has it -/
def strV (s : List UInt8) : Value := .string ⟨s.toArray⟩
/-- k are made, the others are not yet -/
def cellsK {α : Type} (f : α → Value) (z : Value) (l : List α) (k : Nat) : Array Value := ((l.take k).map f ++ List.replicate (l.length - k) z).toArray
theorem cellsK_zero {α : Type} (f : α → Value) (z : Value) (l : List α) : cellsK f z l 0 = zeros z l.length := by
  unfold cellsK zeros
  apply Array.ext'
  simp
theorem cellsK_end {α : Type} (f : α → Value) (z : Value) (l : List α) : cellsK f z l l.length = (l.map f).toArray := by
  unfold cellsK
  simp
theorem cellsK_size {α : Type} (f : α → Value) (z : Value) (l : List α) {k : Nat} (hk : k ≤ l.length) : (cellsK f z l k).size = l.length := by
  unfold cellsK
  simp
  omega
theorem cellsK_set {α : Type} (f : α → Value) (z : Value) {l : List α} {k : Nat} {x : α} (hx : l[k]? = some x) : (cellsK f z l k).setIfInBounds k (f x) = cellsK f z l (k + 1) := by
  have hk := (List.getElem?_eq_some_iff.1 hx).1
  unfold cellsK
  apply Array.ext'
  simp only [Array.toList_setIfInBounds]
  have e1 : l.length - k = (l.length - (k + 1)) + 1 := by omega
  have e2 : ((l.take k).map f).length = k := by simp; omega
  have key : ∀ (P R : List Value) (v z : Value), (P ++ z :: R).set P.length v = P ++ v :: R := fun P R v z => by
    rw [List.set_append_right _ _ (Nat.le_refl _), Nat.sub_self, List.set_cons_zero]
  have h := key ((l.take k).map f) (List.replicate (l.length - (k + 1)) z) (f x) z
  rw [e2] at h
  rw [e1, List.replicate_succ, h, List.take_add_one, hx, List.map_append, List.append_assoc]
  rfl
theorem cellsK_at {α : Type} (f : α → Value) (z : Value) {l : List α} {k : Nat} (hk : k < l.length) : (cellsK f z l k)[k]? = some z := by
  unfold cellsK
  have e2 : ((l.take k).map f).length = k := by simp; omega
  rw [List.getElem?_toArray, List.getElem?_append_right (by rw [e2]; exact Nat.le_refl _), e2, Nat.sub_self, List.getElem?_replicate, if_pos (by omega)]
theorem join_eq : ∀ l : List (List UInt8), Lib.join l [44, 32] = joinS l
  | [] => Lib.join_nil _
  | [a] => Lib.join_one a _
  | a :: b :: r => by
    have h := join_eq (b :: r)
    rw [Lib.join_cons] at h
    rw [Lib.join_cons]
    show a ++ Lib.joinTail [44, 32] (b :: r) = a ++ 44 :: 32 :: joinS (b :: r)
    rw [← h]
    simp [Lib.joinTail]
set_option maxHeartbeats 4000000 in
theorem eachST (f : Nat) (p : Tx → List UInt8) (eg : ∀ args w, (callFunc f args).run Tryd.prog w = .ok (.enter f args) w) {A : Option Addr} {cap : Nat} {l : List Tx} {w : World} (hR : RowLT w A l) (h0 : 1 ≤ l.length) (h4 : l.length ≤ 1000)
    (hf : ∀ a ∈ l, ∀ w', Only [] w w' → LiesT w' a → Calls Tryd.prog f #[a.val] w' fun r w'' => r = .returned (strV (p a)) ∧ Only [] w' w'') :
    Calls Tryd.prog 52 #[.slice A l.length cap, .func (.func f) #[] #[]] w fun r w' => ∃ b, r = .returned (.slice (some ⟨b, 0, none⟩) l.length l.length) ∧ w.heap.size ≤ b ∧ Blk w' b 9 (l.map fun a => strV (p a)).toArray ∧ Only [] w w' := by
  have HR := Lib.hid hR
  have HF := Lib.hid hf
  obtain ⟨n, hn⟩ : ∃ n, l.length = n := ⟨_, rfl⟩
  have HN := Lib.hid hn
  rw [hn] at h0 h4 ⊢
  have d0 : ¬ n = 0 := by omega
  have d1 : ((n : Int) == 0) = false := beq_eq_false_iff_ne.2 (by omega)
  have hmk : ∀ W, (Instr.makeSlice 59 (.int .i64 (n : Int)) (.int .i64 (n : Int))).run Tryd.prog W = .ok (.slice (some ⟨W.heap.size, 0, none⟩) n n) (W.alloc (.cells (zeros (.string ⟨#[]⟩) n) 9)) := fun W => run_make_one 59 9 Tryd.underlying59 str_info rfl .i64 .i64 n (by omega) (by omega) W
  obtain ⟨b, hb⟩ : ∃ b, w.heap.size = b := ⟨_, rfl⟩
  have HB := Lib.hid hb
  have hq0 : Blk (w.alloc (.cells (zeros (.string ⟨#[]⟩) n) 9)) w.heap.size 9 (cellsK (fun a => strV (p a)) (.string ⟨#[]⟩) l 0) := by rw [cellsK_zero, hn]; exact Blk.new w 9 _
  have HQ0 := Lib.hid hq0
  have HO0 := Lib.hid (show Only [] w (w.alloc (.cells (zeros (.string ⟨#[]⟩) n) 9)) from (Only.refl _ _).alloc _)
  rw [hb] at HQ0
  clear hR hf hn hq0 hb
  go_enter Tryd.func52, Tryd.ntmps52
  go_wp2_with (fail)
  clear hmk
  rw [HB.out]
  go_loopw [16] (fun i wr => ∃ k : Nat, i = .int .i64 k ∧ k ≤ n ∧ Hid (Blk wr b 9 (cellsK (fun a => strV (p a)) (.string ⟨#[]⟩) l k)) ∧ Hid (Only [] w wr)) (fun i _ => n - (intOf i).toNat)
  case atStart => exact ⟨0, rfl, Nat.zero_le _, HQ0, HO0⟩
  case round =>
    obtain ⟨k, rfl, hk, HQ, HOr⟩ := hrel
    by_cases hlt : k < n
    · obtain ⟨e, he⟩ : ∃ e, l[k]? = some e := ⟨_, List.getElem?_eq_getElem (by rw [HN.out]; exact hlt)⟩
      have hmem : e ∈ l := List.mem_of_getElem? he
      have HLe := Lib.hid ((HR.out.sub e hmem).keep HOr.out)
      have hcall := HF.out e hmem
      have HSET := Lib.hid (cellsK_set (fun a => strV (p a)) (.string ⟨#[]⟩) he)
      have HAT := Lib.hid (cellsK_at (fun a => strV (p a)) (.string ⟨#[]⟩) (l := l) (k := k) (by rw [HN.out]; exact hlt))
      obtain ⟨pe, hpe⟩ : ∃ pe, p e = pe := ⟨_, rfl⟩
      rw [hpe] at hcall HSET
      have hrow := (HR.out.row k _ he).only HOr.out (by simp)
      obtain ⟨xk, xA, xcap, xl⟩ := e
      obtain ⟨bb, o, rfl, hbb, c0, c1⟩ := hrow.cells
      have HCA := Lib.hid (show ∀ w', Only [] w w' → LiesT w' (.mk xk xA xcap xl) → Calls Tryd.prog f #[.agg #[.int .i64 xk, .slice xA xl.length xcap]] w' fun r w'' => r = .returned (strV pe) ∧ Only [] w' w'' from hcall)
      have oA : Only [] wr (wr.alloc (.cells #[.int .i64 xk, .slice xA xl.length xcap] 26)) := (Only.refl _ _).alloc _
      have HOA := Lib.hid oA
      have ik0 : (0 : Int) ≤ (k : Int) := by omega
      have ik1 : (k : Int) < (n : Int) := by omega
      clear he hmem hcall hpe oA hrow
      go_wp2_with (fail)
      refine (HCA.out _ (HOr.out.trans HOA.out (by simp)) (HLe.out.keep HOA.out)).mono ?_
      rintro r w3 ⟨rfl, o3⟩
      have HO3 := Lib.hid ((HOr.out.trans HOA.out (by simp)).trans o3 (by simp))
      have hq3 := (HOA.out.trans o3 (by simp)).blk HQ.out (by simp)
      have c0' := (hq3.cell k).trans HAT.out
      have f0' := hq3.frozen k
      have bl3 := hq3.lt
      have HQ3 := Lib.hid (hq3.set_ k (strV pe))
      rw [HSET.out] at HQ3
      have HO4 := Lib.hid (HO3.out.setCell (p := ⟨b, k, none⟩) (.inr (by rw [HB.out]; exact Nat.le_refl _)) (strV pe))
      clear o3 c0 c1 hq3
      unfold strV at HQ3 HO4 ⊢
      go_wp2_with (fail)
      go_roundw
      case rel => exact ⟨k + 1, by go_num, by omega, HQ3, HO4⟩
      case measure => simp [intOf]; omega
    · have hke : k = n := by omega
      have iz : ¬ (n : Int) < (n : Int) := by omega
      have HE := Lib.hid (show Blk wr b 9 (l.map fun a => strV (p a)).toArray by
        have h := HQ.out
        rw [hke, ← HN.out, cellsK_end] at h
        exact h)
      rw [hke]
      clear hke hlt hk
      go_wp2_with (fail)
      go_ret
      exact ⟨b, rfl, by rw [HB.out]; exact Nat.le_refl _, HE.out, HOr.out⟩
set_option maxHeartbeats 4000000 in
theorem eachSV (f : Nat) (p : Vx → List UInt8) (eg : ∀ args w, (callFunc f args).run Tryd.prog w = .ok (.enter f args) w) {A : Option Addr} {cap : Nat} {l : List Vx} {w : World} (hR : RowLV w A l) (h0 : 1 ≤ l.length) (h4 : l.length ≤ 1000)
    (hf : ∀ a ∈ l, ∀ w', Only [] w w' → LiesV w' a → Calls Tryd.prog f #[a.val] w' fun r w'' => r = .returned (strV (p a)) ∧ Only [] w' w'') :
    Calls Tryd.prog 58 #[.slice A l.length cap, .func (.func f) #[] #[]] w fun r w' => ∃ b, r = .returned (.slice (some ⟨b, 0, none⟩) l.length l.length) ∧ w.heap.size ≤ b ∧ Blk w' b 9 (l.map fun a => strV (p a)).toArray ∧ Only [] w w' := by
  have HR := Lib.hid hR
  have HF := Lib.hid hf
  obtain ⟨n, hn⟩ : ∃ n, l.length = n := ⟨_, rfl⟩
  have HN := Lib.hid hn
  rw [hn] at h0 h4 ⊢
  have d0 : ¬ n = 0 := by omega
  have d1 : ((n : Int) == 0) = false := beq_eq_false_iff_ne.2 (by omega)
  have hmk : ∀ W, (Instr.makeSlice 59 (.int .i64 (n : Int)) (.int .i64 (n : Int))).run Tryd.prog W = .ok (.slice (some ⟨W.heap.size, 0, none⟩) n n) (W.alloc (.cells (zeros (.string ⟨#[]⟩) n) 9)) := fun W => run_make_one 59 9 Tryd.underlying59 str_info rfl .i64 .i64 n (by omega) (by omega) W
  obtain ⟨b, hb⟩ : ∃ b, w.heap.size = b := ⟨_, rfl⟩
  have HB := Lib.hid hb
  have hq0 : Blk (w.alloc (.cells (zeros (.string ⟨#[]⟩) n) 9)) w.heap.size 9 (cellsK (fun a => strV (p a)) (.string ⟨#[]⟩) l 0) := by rw [cellsK_zero, hn]; exact Blk.new w 9 _
  have HQ0 := Lib.hid hq0
  have HO0 := Lib.hid (show Only [] w (w.alloc (.cells (zeros (.string ⟨#[]⟩) n) 9)) from (Only.refl _ _).alloc _)
  rw [hb] at HQ0
  clear hR hf hn hq0 hb
  go_enter Tryd.func58, Tryd.ntmps58
  go_wp2_with (fail)
  clear hmk
  rw [HB.out]
  go_loopw [16] (fun i wr => ∃ k : Nat, i = .int .i64 k ∧ k ≤ n ∧ Hid (Blk wr b 9 (cellsK (fun a => strV (p a)) (.string ⟨#[]⟩) l k)) ∧ Hid (Only [] w wr)) (fun i _ => n - (intOf i).toNat)
  case atStart => exact ⟨0, rfl, Nat.zero_le _, HQ0, HO0⟩
  case round =>
    obtain ⟨k, rfl, hk, HQ, HOr⟩ := hrel
    by_cases hlt : k < n
    · obtain ⟨e, he⟩ : ∃ e, l[k]? = some e := ⟨_, List.getElem?_eq_getElem (by rw [HN.out]; exact hlt)⟩
      have hmem : e ∈ l := List.mem_of_getElem? he
      have HLe := Lib.hid ((HR.out.sub e hmem).keep HOr.out)
      have hcall := HF.out e hmem
      have HSET := Lib.hid (cellsK_set (fun a => strV (p a)) (.string ⟨#[]⟩) he)
      have HAT := Lib.hid (cellsK_at (fun a => strV (p a)) (.string ⟨#[]⟩) (l := l) (k := k) (by rw [HN.out]; exact hlt))
      obtain ⟨pe, hpe⟩ : ∃ pe, p e = pe := ⟨_, rfl⟩
      rw [hpe] at hcall HSET
      have hrow := (HR.out.row k _ he).only HOr.out (by simp)
      obtain ⟨xk, xn, xs, xA, xcap, xl⟩ := e
      obtain ⟨bb, o, rfl, hbb, c0, c1, c2, c3⟩ := hrow.cells
      have HCA := Lib.hid (show ∀ w', Only [] w w' → LiesV w' (.mk xk xn xs xA xcap xl) → Calls Tryd.prog f #[.agg #[.int .i64 xk, .int .i64 xn, .string xs, .slice xA xl.length xcap]] w' fun r w'' => r = .returned (strV pe) ∧ Only [] w' w'' from hcall)
      have oA : Only [] wr (wr.alloc (.cells #[.int .i64 xk, .int .i64 xn, .string xs, .slice xA xl.length xcap] 34)) := (Only.refl _ _).alloc _
      have HOA := Lib.hid oA
      have ik0 : (0 : Int) ≤ (k : Int) := by omega
      have ik1 : (k : Int) < (n : Int) := by omega
      clear he hmem hcall hpe oA hrow
      go_wp2_with (fail)
      refine (HCA.out _ (HOr.out.trans HOA.out (by simp)) (HLe.out.keep HOA.out)).mono ?_
      rintro r w3 ⟨rfl, o3⟩
      have HO3 := Lib.hid ((HOr.out.trans HOA.out (by simp)).trans o3 (by simp))
      have hq3 := (HOA.out.trans o3 (by simp)).blk HQ.out (by simp)
      have c0' := (hq3.cell k).trans HAT.out
      have f0' := hq3.frozen k
      have bl3 := hq3.lt
      have HQ3 := Lib.hid (hq3.set_ k (strV pe))
      rw [HSET.out] at HQ3
      have HO4 := Lib.hid (HO3.out.setCell (p := ⟨b, k, none⟩) (.inr (by rw [HB.out]; exact Nat.le_refl _)) (strV pe))
      clear o3 c0 c1 c2 c3 hq3
      unfold strV at HQ3 HO4 ⊢
      go_wp2_with (fail)
      go_roundw
      case rel => exact ⟨k + 1, by go_num, by omega, HQ3, HO4⟩
      case measure => simp [intOf]; omega
    · have hke : k = n := by omega
      have iz : ¬ (n : Int) < (n : Int) := by omega
      have HE := Lib.hid (show Blk wr b 9 (l.map fun a => strV (p a)).toArray by
        have h := HQ.out
        rw [hke, ← HN.out, cellsK_end] at h
        exact h)
      rw [hke]
      clear hke hlt hk
      go_wp2_with (fail)
      go_ret
      exact ⟨b, rfl, by rw [HB.out]; exact Nat.le_refl _, HE.out, HOr.out⟩
end Go.Proofs.YtgpljjejfebhoaaDoor
