/- The document's Put; list. -/
import Derived.Test.YtpedlapemgjgaaaRef
namespace Go.Proofs.Ytpedlapemgjgaaa
open Go.RowKit Go.Kx Go.Bag
set_option maxRecDepth 100000
def doneP (x : Ent) (l : List Ent) : Bool := l.any (fun y => decide (x.1 < y.1))
/-- what has come out after the first entries -/
def outP (x : Ent) (l : List Ent) : List Ent := if doneP x l = true then ins keyJ x l else l
theorem ins_len {α : Type} {key : α → Int} (x : α) : ∀ l : List α, (ins key x l).length = l.length + 1
  | [] => rfl
  | y :: l => by
    unfold ins
    split
    · rfl
    · simp [ins_len x l]
theorem ins_none (x : Ent) : ∀ l : List Ent, doneP x l = false → ins keyJ x l = l ++ [x]
  | [], _ => rfl
  | y :: l, h => by
    unfold doneP at h
    rw [List.any_cons, Bool.or_eq_false_iff] at h
    unfold ins
    rw [if_neg (by simpa [keyJ] using h.1), ins_none x l h.2]
    rfl
theorem ins_snoc (x y : Ent) : ∀ l : List Ent, ins keyJ x (l ++ [y]) = if doneP x l then ins keyJ x l ++ [y] else if x.1 < y.1 then l ++ [x, y] else l ++ [y, x]
  | [] => by
    unfold doneP
    simp only [List.any_nil, List.nil_append, ins]
    by_cases h : x.1 < y.1 <;> simp [h, keyJ]
  | z :: l => by
    have ih := ins_snoc x y l
    show ins keyJ x (z :: (l ++ [y])) = _
    by_cases h : keyJ x < keyJ z
    · have hd : doneP x (z :: l) = true := by unfold doneP; simp [show x.1 < z.1 from h]
      rw [if_pos hd]
      unfold ins
      rw [if_pos h, if_pos h]
      rfl
    · have hd : doneP x (z :: l) = doneP x l := by unfold doneP; rw [List.any_cons, decide_eq_false (show ¬ x.1 < z.1 from h), Bool.false_or]
      rw [hd]
      have e1 : ins keyJ x (z :: (l ++ [y])) = z :: ins keyJ x (l ++ [y]) := by conv => lhs; unfold ins; rw [if_neg h]
      have e2 : ins keyJ x (z :: l) = z :: ins keyJ x l := by conv => lhs; unfold ins; rw [if_neg h]
      rw [e1, ih, e2]
      by_cases h1 : doneP x l = true
      · rw [if_pos h1, if_pos h1]; rfl
      · rw [if_neg h1, if_neg h1]
        by_cases h2 : x.1 < y.1
        · rw [if_pos h2, if_pos h2]; rfl
        · rw [if_neg h2, if_neg h2]; rfl
theorem doneP_snoc (x y : Ent) (l : List Ent) : doneP x (l ++ [y]) = (doneP x l || decide (x.1 < y.1)) := by unfold doneP; simp
theorem outP_done {x y : Ent} {l : List Ent} (h : doneP x l = true) : outP x (l ++ [y]) = outP x l ++ [y] := by
  have h2 : doneP x (l ++ [y]) = true := by rw [doneP_snoc, h]; rfl
  unfold outP
  rw [if_pos h, if_pos h2, ins_snoc, if_pos h]
theorem outP_now {x y : Ent} {l : List Ent} (h : doneP x l = false) (hxy : x.1 < y.1) : outP x (l ++ [y]) = outP x l ++ [x] ++ [y] := by
  have h2 : doneP x (l ++ [y]) = true := by rw [doneP_snoc, h]; simpa using hxy
  have h3 := ins_snoc x y l
  rw [if_neg (by rw [h]; decide), if_pos hxy] at h3
  unfold outP
  rw [if_pos h2, if_neg (by rw [h]; decide), h3]
  simp
theorem outP_not {x y : Ent} {l : List Ent} (h : doneP x l = false) (hxy : ¬ x.1 < y.1) : outP x (l ++ [y]) = outP x l ++ [y] := by
  have h2 : doneP x (l ++ [y]) = false := by rw [doneP_snoc, h]; simpa using hxy
  unfold outP
  rw [if_neg (by rw [h2]; decide), if_neg (by rw [h]; decide)]
theorem outP_end (x : Ent) (l : List Ent) : ins keyJ x l = if doneP x l then outP x l else outP x l ++ [x] := by
  by_cases h : doneP x l = true
  · rw [if_pos h]; unfold outP; rw [if_pos h]
  · rw [if_neg h]
    have h' : doneP x l = false := by simpa using h
    rw [ins_none x l h']
    unfold outP
    rw [if_neg h]
theorem outP_le (x : Ent) (l : List Ent) : (outP x l).length ≤ l.length + 1 := by
  unfold outP
  split
  · rw [ins_len]; exact Nat.le_refl _
  · omega
set_option maxHeartbeats 4000000 in
theorem refput_any {w : World} {l : List Ent} {A : Option Addr} {c : Nat} (hm : RowC w A (flat2 l)) (x : Ent) (hl : l.length ≤ 1000000) :
    Calls Try.prog 24 #[.slice A l.length c, .agg #[.int .i64 x.1, .int .i64 x.2]] w fun e w' => ∃ A' c', e = .returned (.slice A' (ins keyJ x l).length c') ∧ w'.ownsRow w.heap.size 49 2 (.slice A' (ins keyJ x l).length c') (ins keyJ x l).length (flat2 (ins keyJ x l)) ∧ Only [] w w' := by
  have hbn := Blk.new w 49 #[.int .i64 x.1, .int .i64 x.2]
  have o0 : Only [] w (w.alloc (.cells #[.int .i64 x.1, .int .i64 x.2] 49)) := (Only.refl [] w).alloc _
  have HX := Lib.hid hbn
  have HM := Lib.hid (hm.only o0)
  have HO := Lib.hid o0
  have hz := o0.size
  have hz1 : w.heap.size < (w.alloc (.cells #[.int .i64 x.1, .int .i64 x.2] 49)).heap.size := hbn.lt
  clear hm hbn o0
  go_enter Try.func24, Try.ntmps24
  go_wp2_with (fail)
  generalize w.alloc (.cells #[.int .i64 x.1, .int .i64 x.2] 49) = w1 at HX HM HO hz hz1
  go_loopw [5, 6, 7] (fun v b u wr => ∃ (i : Nat) (A' : Option Addr) (c' : Nat), v = .slice A' (outP x (l.take i)).length c' ∧ b = .bool (doneP x (l.take i)) ∧ u = .int .i64 i ∧ i ≤ l.length ∧ wr.ownsRow w1.heap.size 49 2 (.slice A' (outP x (l.take i)).length c') (outP x (l.take i)).length (flat2 (outP x (l.take i))) ∧ Only [] w1 wr) (fun _ _ u _ => l.length - (intOf u).toNat)
  case atStart => exact ⟨0, none, 0, rfl, rfl, rfl, Nat.zero_le _, World.ownsRow_nil _ _ _ _, Only.refl _ _⟩
  case round =>
    obtain ⟨i, A', c', rfl, rfl, rfl, hi, hO, ho⟩ := hrel
    have hop := outP_le x (l.take i)
    by_cases hlt : i < l.length
    · rw [List.length_take] at hop
      obtain ⟨e, hit⟩ := at_some hlt
      have hT := take_succ_of hit
      have hmr := HM.out.only ho
      obtain ⟨p, po, rfl, pl, c0, c1'⟩ := rowJ hmr hit
      have iz0 : (0 : Int) ≤ (i : Int) := by omega
      have iz1 : (i : Int) < (l.length : Int) := by omega
      obtain ⟨x0, x1, xl⟩ := (ho.blk HX.out (by simp)).facts2
      clear hmr
      have HOo := Lib.hid hO
      have Ho := Lib.hid ho
      clear hO ho
      cases hd : doneP x (l.take i) with
      | true =>
        have h1 := outP_done (y := e) hd
        rw [← hT] at h1
        have h2 : doneP x (l.take (i + 1)) = true := by rw [hT, doneP_snoc, hd]; rfl
        go_wp2_with (fail)
        go_quiet (fail)
        generalize hW : wr.drewN _ = W1
        have oW : Only [] wr W1 := by rw [← hW]; exact (Only.refl _ _).drewN _
        clear c0 c1' x0 x1 xl hW
        have oA := Ho.out.trans oW (by simp)
        have hO := ownsRow_only oW HOo.out (fun _ _ => by simp)
        have hmr := HM.out.only oA
        obtain ⟨p', po', hp', pl', c0, c1'⟩ := rowJ hmr hit
        injection hp' with hp'; injection hp' with hp' hp''; subst hp'; subst hp''
        obtain ⟨q, c2, W3, hrun, hw3, o3, hq⟩ := run_append2 (P := Try.prog) 49 51 Try.underlying51 item_info rfl hO e oA.size (by unfold maxLen; omega) (by omega)
        have o4 : Only [] w1 W3 := oA.trans o3 (fun y hy => .inr (hO.lt y (by simpa using hy)).1)
        have HW3 := Lib.hid hw3
        have HO4 := Lib.hid o4
        clear hO hw3 o3 o4 hmr oA oW
        go_wp2_with (at_builtin; refine wpList_append_run hrun rfl _ _ rfl rfl rfl rfl ?_)
        go_roundw
        case rel => exact ⟨i + 1, _, c2, by rw [h1, List.length_append]; rfl, by rw [h2], by go_num, by omega, by rw [h1, List.length_append, flat2_snoc]; exact HW3.out, HO4.out⟩
        case measure => simp [intOf]; omega
      | false =>
        by_cases hxe : x.1 < e.1
        · have h1 := outP_now (y := e) hd hxe
          rw [← hT] at h1
          have h2 : doneP x (l.take (i + 1)) = true := by rw [hT, doneP_snoc, decide_eq_true hxe]; simp
          go_wp2_with (fail)
          go_quiet (fail)
          generalize hW : wr.drewN _ = W1
          have oW : Only [] wr W1 := by rw [← hW]; exact (Only.refl _ _).drewN _
          clear c0 c1' x0 x1 xl hW
          have oA := Ho.out.trans oW (by simp)
          have hO := ownsRow_only oW HOo.out (fun _ _ => by simp)
          obtain ⟨x0, x1, xl⟩ := (oA.blk HX.out (by simp)).facts2
          obtain ⟨q, c2, W3, hrun, hw3, o3, hq⟩ := run_append2 (P := Try.prog) 49 51 Try.underlying51 item_info rfl hO x oA.size (by unfold maxLen; omega) (by omega)
          have o4 : Only [] w1 W3 := oA.trans o3 (fun y hy => .inr (hO.lt y (by simpa using hy)).1)
          have hmr := HM.out.only o4
          obtain ⟨p', po', hp', pl', c0, c1'⟩ := rowJ hmr hit
          injection hp' with hp'; injection hp' with hp' hp''; subst hp'; subst hp''
          obtain ⟨q4, c4, W5, hrun4, hw5, o5, hq4⟩ := run_append2 (P := Try.prog) 49 51 Try.underlying51 item_info rfl hw3 e o4.size (by unfold maxLen; omega) (by omega)
          have o6 : Only [] w1 W5 := o4.trans o5 (fun y hy => .inr (hw3.lt y (by simpa using hy)).1)
          have hfl : flat2 (outP x (l.take i)) ++ cells2 x ++ cells2 e = flat2 (outP x (l.take i) ++ [x] ++ [e]) := by rw [flat2_snoc, flat2_snoc]
          have HW5 := Lib.hid hw5
          have HO6 := Lib.hid o6
          clear hO hw3 o3 o4 hmr oA oW hw5 o5 o6
          go_wp2_with (at_builtin; first | (refine wpList_append_run hrun rfl _ _ rfl rfl rfl rfl ?_; clear hrun) | (refine wpList_append_run hrun4 rfl _ _ rfl rfl rfl rfl ?_; clear hrun4))
          go_roundw
          case rel => exact ⟨i + 1, _, c4, by rw [h1, List.length_append, List.length_append]; rfl, by rw [h2], by go_num, by omega, by rw [h1, List.length_append, List.length_append, ← hfl]; exact HW5.out, HO6.out⟩
          case measure => simp [intOf]; omega
        · have h1 := outP_not (y := e) hd hxe
          rw [← hT] at h1
          have h2 : doneP x (l.take (i + 1)) = false := by rw [hT, doneP_snoc, decide_eq_false hxe, hd]; rfl
          go_wp2_with (fail)
          go_quiet (fail)
          generalize hW : wr.drewN _ = W1
          have oW : Only [] wr W1 := by rw [← hW]; exact (Only.refl _ _).drewN _
          clear c0 c1' x0 x1 xl hW
          have oA := Ho.out.trans oW (by simp)
          have hO := ownsRow_only oW HOo.out (fun _ _ => by simp)
          have hmr := HM.out.only oA
          obtain ⟨p', po', hp', pl', c0, c1'⟩ := rowJ hmr hit
          injection hp' with hp'; injection hp' with hp' hp''; subst hp'; subst hp''
          obtain ⟨q, c2, W3, hrun, hw3, o3, hq⟩ := run_append2 (P := Try.prog) 49 51 Try.underlying51 item_info rfl hO e oA.size (by unfold maxLen; omega) (by omega)
          have o4 : Only [] w1 W3 := oA.trans o3 (fun y hy => .inr (hO.lt y (by simpa using hy)).1)
          have HW3 := Lib.hid hw3
          have HO4 := Lib.hid o4
          clear hO hw3 o3 o4 hmr oA oW
          go_wp2_with (at_builtin; refine wpList_append_run hrun rfl _ _ rfl rfl rfl rfl ?_)
          go_roundw
          case rel => exact ⟨i + 1, _, c2, by rw [h1, List.length_append]; rfl, by rw [h2], by go_num, by omega, by rw [h1, List.length_append, flat2_snoc]; exact HW3.out, HO4.out⟩
          case measure => simp [intOf]; omega
    · have hie : i = l.length := by omega
      have ht : l.take i = l := by rw [hie]; exact List.take_length
      rw [ht] at hO hop ⊢
      have iz1 : ¬ (i : Int) < (l.length : Int) := by omega
      have hE := outP_end x l
      obtain ⟨x0, x1, xl⟩ := (ho.blk HX.out (by simp)).facts2
      cases hd : doneP x l with
      | true =>
        rw [hd, if_pos rfl] at hE
        have HOo := Lib.hid (Only.trans HO.out ho (by simp))
        have HW := Lib.hid hO
        clear hO ho hie x0 x1 xl
        go_wp2_with (fail)
        go_ret
        exact ⟨A', c', rfl, own_base HW.out (by omega), HOo.out⟩
      | false =>
        rw [hd, if_neg (by decide)] at hE
        obtain ⟨q, c2, W3, hrun, hw3, o3, hq⟩ := run_append2 (P := Try.prog) 49 51 Try.underlying51 item_info rfl hO x ho.size (by unfold maxLen; omega) (by omega)
        have HO4 := Lib.hid (show Only [] w W3 from (HO.out.trans ho (by simp)).trans o3 (fun y hy => .inr (Nat.le_trans hz (hO.lt y (by simpa using hy)).1)))
        have HW3 := Lib.hid hw3
        clear hO ho hw3 o3 hie
        go_wp2_with (at_builtin; refine wpList_append_run hrun rfl _ _ rfl rfl rfl rfl ?_)
        go_ret
        exact ⟨_, c2, rfl, by rw [flat2_snoc]; exact own_base HW3.out (by omega), HO4.out⟩
set_option maxHeartbeats 4000000 in
theorem list_any {B : Nat} {w : World} {g : Nat} {L : List Ent} {A : Option Addr} {c : Nat} (hT : BBJ B w g L A c) (hl : L.length ≤ 1000000) :
    Calls Try.prog 32 #[.pointer (some ⟨g, 0, none⟩)] w fun e w' => ∃ A' c', e = .returned (.slice A' L.length c') ∧ w'.ownsRow w.heap.size 49 2 (.slice A' L.length c') L.length (flat2 L) ∧ Only [] w w' := by
  have HT := Lib.hid hT
  clear hT
  obtain ⟨n, hn⟩ : ∃ n, L.length = n := ⟨_, rfl⟩
  have HN := Lib.hid hn
  rw [hn] at hl ⊢
  clear hn
  go_enter Try.func32, Try.ntmps32
  go_wp2_with (fail)
  go_loopw [3, 4] (fun v u wr => ∃ (i : Nat) (A' : Option Addr) (c' : Nat), v = .slice A' i c' ∧ u = .int .i64 i ∧ i ≤ n ∧ wr.ownsRow w.heap.size 49 2 (.slice A' i c') i (flat2 (L.take i)) ∧ Only [] w wr) (fun _ u _ => n - (intOf u).toNat)
  case atStart => exact ⟨0, none, 0, rfl, rfl, Nat.zero_le _, World.ownsRow_nil _ _ _ _, Only.refl _ _⟩
  case round =>
    obtain ⟨i, A', c', rfl, rfl, hi, hO, ho⟩ := hrel
    have hc := lenJ (HT.out.keep ho)
    rw [HN.out] at hc
    have HO := Lib.hid ho
    have HW := Lib.hid hO
    clear hO ho
    by_cases hlt : i < n
    · obtain ⟨e, hit⟩ := at_some (L := L) (i := i) (by rw [HN.out]; exact hlt)
      have HAT := Lib.hid (atJ (HT.out.keep HO.out) hit)
      have hT := take_succ_of hit
      have iz1 : (i : Int) < (n : Int) := by omega
      go_wp2_with (fail)
      refine hc.mono ?_
      clear hc
      rintro r w1 ⟨rfl, rfl⟩
      go_wp2_with (fail)
      refine HAT.out.mono ?_
      clear HAT
      rintro r w2 ⟨rfl, o2⟩
      have hO2 := ownsRow_only o2 HW.out (fun _ _ => by simp)
      have o3 : Only [] w2 (w2.alloc (.cells #[.int .i64 e.1, .int .i64 e.2] 49)) := (Only.refl [] w2).alloc _
      have oA := (HO.out.trans o2 (by simp)).trans o3 (by simp)
      have hO3 := ownsRow_only o3 hO2 (fun _ _ => by simp)
      obtain ⟨q, c2, W3, hrun, hw3, o3', hq⟩ := run_append2 (P := Try.prog) 49 51 Try.underlying51 item_info rfl hO3 e oA.size (by unfold maxLen; omega) (by omega)
      rw [World.size_alloc] at hrun
      have o4 : Only [] w W3 := oA.trans o3' (fun y hy => .inr (hO3.lt y (by simpa using hy)).1)
      have HW3 := Lib.hid hw3
      have HO4 := Lib.hid o4
      clear hO2 hO3 hw3 o3 o3' o4 oA o2 hq
      go_wp2_with (at_builtin; refine wpList_append_run hrun rfl _ _ rfl rfl rfl rfl ?_)
      go_roundw
      case rel => exact ⟨i + 1, _, c2, rfl, by go_num, by omega, by rw [hT, flat2_snoc]; exact HW3.out, HO4.out⟩
      case measure => simp [intOf]; omega
    · have hie : i = n := by omega
      have ht : L.take i = L := List.take_of_length_le (by rw [HN.out]; omega)
      have iz1 : ¬ (i : Int) < (n : Int) := by omega
      rw [ht] at HW
      rw [hie] at HW iz1 ⊢
      clear hie hi hlt ht
      go_wp2_with (fail)
      refine hc.mono ?_
      clear hc
      rintro r w1 ⟨rfl, rfl⟩
      go_wp2_with (fail)
      go_ret
      exact ⟨A', c', rfl, HW.out, HO.out⟩
end Go.Proofs.Ytpedlapemgjgaaa
