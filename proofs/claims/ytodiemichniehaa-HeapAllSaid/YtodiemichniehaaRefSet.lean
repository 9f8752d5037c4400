/- The document's Set. -/
import Derived.Test.YtodiemichniehaaRef
namespace Go.Proofs.Ytodiemichniehaa
open Go.RowKit Go.Kx Go.Maps
set_option maxRecDepth 20000

def doneP (x : Ent) (l : List Ent) : Bool := l.any (fun y => decide (elt x y))
/-- what has come out after the first entries -/
def outP (x : Ent) (l : List Ent) : List Ent := if doneP x l = true then insM x l else l
theorem insM_none (x : Ent) : ∀ l : List Ent, doneP x l = false → insM x l = l ++ [x]
  | [], _ => rfl
  | y :: l, h => by
    unfold doneP at h
    rw [List.any_cons, Bool.or_eq_false_iff] at h
    unfold insM
    rw [if_neg (by simpa using h.1), insM_none x l h.2]
    rfl
theorem insM_snoc (x y : Ent) : ∀ l : List Ent, insM x (l ++ [y]) = if doneP x l then insM x l ++ [y] else if elt x y then l ++ [x, y] else l ++ [y, x]
  | [] => by
    unfold doneP
    simp only [List.any_nil, List.nil_append, insM]
    by_cases h : elt x y <;> simp [h]
  | z :: l => by
    have ih := insM_snoc x y l
    show insM x (z :: (l ++ [y])) = _
    by_cases h : elt x z
    · have hd : doneP x (z :: l) = true := by unfold doneP; simp [h]
      rw [if_pos hd]
      unfold insM
      rw [if_pos h, if_pos h]
      rfl
    · have hd : doneP x (z :: l) = doneP x l := by unfold doneP; simp [h]
      rw [hd]
      have e1 : insM x (z :: (l ++ [y])) = z :: insM x (l ++ [y]) := by conv => lhs; unfold insM; rw [if_neg h]
      have e2 : insM x (z :: l) = z :: insM x l := by conv => lhs; unfold insM; rw [if_neg h]
      rw [e1, ih, e2]
      by_cases h1 : doneP x l = true
      · rw [if_pos h1, if_pos h1]; rfl
      · rw [if_neg h1, if_neg h1]
        by_cases h2 : elt x y
        · rw [if_pos h2, if_pos h2]; rfl
        · rw [if_neg h2, if_neg h2]; rfl
theorem doneP_snoc (x y : Ent) (l : List Ent) : doneP x (l ++ [y]) = (doneP x l || decide (elt x y)) := by unfold doneP; simp
theorem outP_done {x y : Ent} {l : List Ent} (h : doneP x l = true) : outP x (l ++ [y]) = outP x l ++ [y] := by
  have h2 : doneP x (l ++ [y]) = true := by rw [doneP_snoc, h]; rfl
  unfold outP
  rw [if_pos h, if_pos h2, insM_snoc, if_pos h]
theorem outP_now {x y : Ent} {l : List Ent} (h : doneP x l = false) (hxy : elt x y) : outP x (l ++ [y]) = outP x l ++ [x] ++ [y] := by
  have h2 : doneP x (l ++ [y]) = true := by rw [doneP_snoc, h]; simpa using hxy
  have h3 := insM_snoc x y l
  rw [if_neg (by rw [h]; decide), if_pos hxy] at h3
  unfold outP
  rw [if_pos h2, if_neg (by rw [h]; decide), h3]
  simp
theorem outP_not {x y : Ent} {l : List Ent} (h : doneP x l = false) (hxy : ¬ elt x y) : outP x (l ++ [y]) = outP x l ++ [y] := by
  have h2 : doneP x (l ++ [y]) = false := by rw [doneP_snoc, h]; simpa using hxy
  unfold outP
  rw [if_neg (by rw [h2]; decide), if_neg (by rw [h]; decide)]
theorem outP_end (x : Ent) (l : List Ent) : insM x l = if doneP x l then outP x l else outP x l ++ [x] := by
  by_cases h : doneP x l = true
  · rw [if_pos h]; unfold outP; rw [if_pos h]
  · rw [if_neg h]
    have h' : doneP x l = false := by simpa using h
    rw [insM_none x l h']
    unfold outP
    rw [if_neg h]
theorem outP_le (x : Ent) (l : List Ent) : (outP x l).length ≤ l.length + 1 := by
  unfold outP
  split
  · rw [insM_length]; exact Nat.le_refl _
  · omega
theorem own_base {W : World} {base base' sz n : Nat} {v : Value} {t : TypeId} {xs : List Value} (h : W.ownsRow base t sz v n xs) (hb : base' ≤ base) : W.ownsRow base' t sz v n xs := by
  refine ⟨h.1, ?_⟩
  rcases h.2 with h | ⟨g, cap, cur, h1, h2, h3⟩
  · exact .inl h
  · exact .inr ⟨g, cap, cur, h1, by omega, h3⟩
set_option maxHeartbeats 4000000 in
theorem refset_any {B : Nat} {w : World} {m : List Ent} {A : Option Addr} {c : Nat} (hm : Row2 w B A m) (x : Ent) (hl : m.length ≤ 1000000) :
    Calls Try.prog 12 #[.slice A m.length c, .agg #[.int .i64 x.1, .int .i64 x.2]] w fun e w' => ∃ A' c', e = .returned (.slice A' (setM m x).length c') ∧ w'.ownsRow w.heap.size 33 2 (.slice A' (setM m x).length c') (setM m x).length (flat2 (setM m x)) ∧ Only [] w w' := by
  have hbn := Blk.new w 33 #[.int .i64 x.1, .int .i64 x.2]
  have o0 : Only [] w (w.alloc (.cells #[.int .i64 x.1, .int .i64 x.2] 33)) := (Only.refl [] w).alloc _
  have hdl := refdel_any (c := c) (hm.keep o0) x.1 (by omega)
  obtain ⟨x0, x1, xl⟩ := hbn.facts2
  have hd1 : (delM m x.1).length ≤ 1000000 := Nat.le_trans (delM_le _ _) hl
  unfold setM
  generalize delM m x.1 = l at hdl hd1 ⊢
  go_enter Try.func12, Try.ntmps12
  go_wp2_with (fail)
  refine hdl.mono ?_
  clear hdl
  rintro e w1 ⟨A1, c1, rfl, hm1, o1⟩
  have HX := Lib.hid (o1.blk hbn (by simp))
  have HM := Lib.hid (own_row2 rfl hm1)
  have HO := Lib.hid (o0.trans o1 (by simp))
  have hz : w.heap.size < w1.heap.size := (o1.blk hbn (by simp)).lt
  clear hm hbn o0 o1 x0 x1 xl hm1 hl
  go_wp2_with (fail)
  go_loopw [5, 6, 7] (fun v b u wr => ∃ (i : Nat) (A' : Option Addr) (c' : Nat), v = .slice A' (outP x (l.take i)).length c' ∧ b = .bool (doneP x (l.take i)) ∧ u = .int .i64 i ∧ i ≤ l.length ∧ wr.ownsRow w1.heap.size 33 2 (.slice A' (outP x (l.take i)).length c') (outP x (l.take i)).length (flat2 (outP x (l.take i))) ∧ Only [] w1 wr) (fun _ _ u _ => l.length - (intOf u).toNat)
  case atStart => exact ⟨0, none, 0, rfl, rfl, rfl, Nat.zero_le _, World.ownsRow_nil _ _ _ _, Only.refl _ _⟩
  case round =>
    obtain ⟨i, A', c', rfl, rfl, rfl, hi, hO, ho⟩ := hrel
    have hop := outP_le x (l.take i)
    by_cases hlt : i < l.length
    · rw [List.length_take] at hop
      have hit : l[i]? = some (gt_ l i) := gt_at hlt
      have hT := take_succ hit
      have hmr := HM.out.keep ho
      obtain ⟨p, po, rfl, pl, c0, c1'⟩ := row_cell hmr hit
      generalize gt_ l i = e at hit hT c0 c1'
      have iz0 : (0 : Int) ≤ (i : Int) := by omega
      have iz1 : (i : Int) < (l.length : Int) := by omega
      have hX := ho.blk HX.out (by simp)
      obtain ⟨x0, x1, xl⟩ := hX.facts2
      clear hX hmr
      have HOo := Lib.hid hO
      have Ho := Lib.hid ho
      clear hO ho
      cases hd : doneP x (l.take i) with
      | true =>
        have h1 := outP_done (y := e) hd
        rw [← hT] at h1
        have h2 : doneP x (l.take (i + 1)) = true := by rw [hT, doneP_snoc, hd]; rfl
        go_wp2_with (fail)
        go_quiet (fail)
        generalize hW : wr.drewN _ = W1
        have oW : Only [] wr W1 := by rw [← hW]; exact (Only.refl _ _).drewN _
        clear c0 c1' x0 x1 xl hW
        have oA := Ho.out.trans oW (by simp)
        have hO := ownsRow_only oW HOo.out (fun _ _ => by simp)
        have hmr := HM.out.keep oA
        obtain ⟨p', po', hp', pl', c0, c1'⟩ := row_cell hmr hit
        injection hp' with hp'; injection hp' with hp' hp''; subst hp'; subst hp''
        obtain ⟨q, c2, W3, hrun, hw3, o3, hq⟩ := run_append2 (P := Try.prog) 33 27 Try.underlying27 re_info rfl hO e oA.size (by unfold maxLen; omega) (by omega)
        have o4 : Only [] w1 W3 := oA.trans o3 (fun y hy => .inr (hO.lt y (by simpa using hy)).1)
        have HW3 := Lib.hid hw3
        have HO4 := Lib.hid o4
        clear hO hw3 o3 o4 hmr oA oW
        go_wp2_with (at_builtin; refine wpList_append_run hrun rfl _ _ rfl rfl rfl rfl ?_)
        go_roundw
        case rel => exact ⟨i + 1, _, c2, by rw [h1, List.length_append]; rfl, by rw [h2], by go_num, by omega, by rw [h1, List.length_append, flat2_snoc]; exact HW3.out, HO4.out⟩
        case measure => simp [intOf]; omega
      | false =>
        cases hxe : decide (elt x e) with
        | true =>
          have hxe' : elt x e := by simpa using hxe
          have h1 := outP_now (y := e) hd hxe'
          rw [← hT] at h1
          have h2 : doneP x (l.take (i + 1)) = true := by rw [hT, doneP_snoc, hxe]; simp
          have hls := refless_is x e hxe wr.drew
          go_wp2_with (fail)
          go_still_tail 8, (by kernel_rfl)
          change wpList _ _ _ _ _ wr.drew
          go_wp2_with (fail)
          refine hls.mono ?_
          clear hls c0 c1' x0 x1 xl
          rintro e' W1 ⟨rfl, oW0⟩
          have oW := (Only.refl [] wr).drew.trans oW0 (by simp)
          have oA := Ho.out.trans oW (by simp)
          have hO := ownsRow_only oW HOo.out (fun _ _ => by simp)
          obtain ⟨x0, x1, xl⟩ := (oA.blk HX.out (by simp)).facts2
          obtain ⟨q, c2, W3, hrun, hw3, o3, hq⟩ := run_append2 (P := Try.prog) 33 27 Try.underlying27 re_info rfl hO x oA.size (by unfold maxLen; omega) (by omega)
          have o4 : Only [] w1 W3 := oA.trans o3 (fun y hy => .inr (hO.lt y (by simpa using hy)).1)
          have hmr := HM.out.keep o4
          obtain ⟨p', po', hp', pl', c0, c1'⟩ := row_cell hmr hit
          injection hp' with hp'; injection hp' with hp' hp''; subst hp'; subst hp''
          obtain ⟨q4, c4, W5, hrun4, hw5, o5, hq4⟩ := run_append2 (P := Try.prog) 33 27 Try.underlying27 re_info rfl hw3 e o4.size (by unfold maxLen; omega) (by omega)
          have o6 : Only [] w1 W5 := o4.trans o5 (fun y hy => .inr (hw3.lt y (by simpa using hy)).1)
          have hfl : flat2 (outP x (l.take i)) ++ cells2 x ++ cells2 e = flat2 (outP x (l.take i) ++ [x] ++ [e]) := by rw [flat2_snoc, flat2_snoc]
          have HW5 := Lib.hid hw5
          have HO6 := Lib.hid o6
          clear hO hw3 o3 o4 hmr oA oW oW0 hw5 o5 o6
          go_wp2_with (at_builtin; first | (refine wpList_append_run hrun rfl _ _ rfl rfl rfl rfl ?_; clear hrun) | (refine wpList_append_run hrun4 rfl _ _ rfl rfl rfl rfl ?_; clear hrun4))
          go_roundw
          case rel => exact ⟨i + 1, _, c4, by rw [h1, List.length_append, List.length_append]; rfl, by rw [h2], by go_num, by omega, by rw [h1, List.length_append, List.length_append, ← hfl]; exact HW5.out, HO6.out⟩
          case measure => simp [intOf]; omega
        | false =>
          have hxe' : ¬ elt x e := by simpa using hxe
          have h1 := outP_not (y := e) hd hxe'
          rw [← hT] at h1
          have h2 : doneP x (l.take (i + 1)) = false := by rw [hT, doneP_snoc, hxe, hd]; rfl
          have hls := refless_is x e hxe wr.drew
          go_wp2_with (fail)
          go_still_tail 8, (by kernel_rfl)
          change wpList _ _ _ _ _ wr.drew
          go_wp2_with (fail)
          refine hls.mono ?_
          clear hls c0 c1' x0 x1 xl
          rintro e' W1 ⟨rfl, oW0⟩
          have oW := (Only.refl [] wr).drew.trans oW0 (by simp)
          have oA := Ho.out.trans oW (by simp)
          have hO := ownsRow_only oW HOo.out (fun _ _ => by simp)
          have hmr := HM.out.keep oA
          obtain ⟨p', po', hp', pl', c0, c1'⟩ := row_cell hmr hit
          injection hp' with hp'; injection hp' with hp' hp''; subst hp'; subst hp''
          obtain ⟨q, c2, W3, hrun, hw3, o3, hq⟩ := run_append2 (P := Try.prog) 33 27 Try.underlying27 re_info rfl hO e oA.size (by unfold maxLen; omega) (by omega)
          have o4 : Only [] w1 W3 := oA.trans o3 (fun y hy => .inr (hO.lt y (by simpa using hy)).1)
          have HW3 := Lib.hid hw3
          have HO4 := Lib.hid o4
          clear hO hw3 o3 o4 hmr oA oW oW0
          go_wp2_with (at_builtin; refine wpList_append_run hrun rfl _ _ rfl rfl rfl rfl ?_)
          go_roundw
          case rel => exact ⟨i + 1, _, c2, by rw [h1, List.length_append]; rfl, by rw [h2], by go_num, by omega, by rw [h1, List.length_append, flat2_snoc]; exact HW3.out, HO4.out⟩
          case measure => simp [intOf]; omega
    · have hie : i = l.length := by omega
      have ht : l.take i = l := by rw [hie]; exact List.take_length
      rw [ht] at hO hop ⊢
      have iz1 : ¬ (i : Int) < (l.length : Int) := by omega
      have hE := outP_end x l
      obtain ⟨x0, x1, xl⟩ := (ho.blk HX.out (by simp)).facts2
      cases hd : doneP x l with
      | true =>
        rw [hd, if_pos rfl] at hE
        have HOo := Lib.hid (Only.trans HO.out ho (by simp))
        have HW := Lib.hid hO
        clear hO ho hie
        go_wp2_with (fail)
        go_ret
        exact ⟨A', c', rfl, own_base HW.out (by omega), HOo.out⟩
      | false =>
        rw [hd, if_neg (by decide)] at hE
        obtain ⟨q, c2, W3, hrun, hw3, o3, hq⟩ := run_append2 (P := Try.prog) 33 27 Try.underlying27 re_info rfl hO x ho.size (by unfold maxLen; omega) (by omega)
        have o4 : Only [] w W3 := (Only.trans HO.out ho (by simp)).trans o3 (fun y hy => .inr (by
          have := (hO.lt y (by simpa using hy)).1
          have := HO.out.size
          omega))
        have HW3 := Lib.hid hw3
        have HO4 := Lib.hid o4
        clear hO ho hw3 o3 o4 hie
        go_wp2_with (at_builtin; refine wpList_append_run hrun rfl _ _ rfl rfl rfl rfl ?_)
        go_ret
        exact ⟨_, c2, rfl, by rw [flat2_snoc]; exact own_base HW3.out (by omega), HO4.out⟩
end Go.Proofs.Ytodiemichniehaa
