/- The text of a time: span's and the reference's, walked. -/
import Derived.Test.YtoefekgfklillaaDoorDec
import Derived.Test.YtoefekgfklillaaDoorSums
import Derived.Lib.AppendIntMem
namespace Go.Proofs.YtoefekgfklillaaDoor
open Go.RowKit Go.Kx
set_option maxRecDepth 20000

theorem only_of_below {w w' : World} (h : Below w.heap.size w w') : Only [] w w' := ⟨h.1, h.2, h.3, h.4, fun k hk _ => h.5 k hk⟩
theorem Only.bel {w w' : World} (h : Only [] w w') : Below w.heap.size w w' := h.below (Nat.le_refl _) (by simp)
def Tab10 (w : World) : Prop := Lib.TabIs Tryd.prog w "internal/strconv.uint64pow10" .u64 Lib.pow10Tab
theorem Tab10.only {w w' : World} (h : Tab10 w) (ho : Only [] w w') : Tab10 w' := Lib.tabBelow_of_tabIs h w' (Only.bel ho)
theorem itoa_nat (n : Nat) (h : n ≤ 9223372036854775807) {w : World} (ht : Tab10 w) : Calls Tryd.prog 35 #[.int .i64 n] w fun e w' => e = .returned (.string ⟨(Lib.decDigits n).toArray⟩) ∧ Only [] w w' :=
  (Tryd.strconv_Itoa n (by omega) (by omega) w ht).mono fun e w' ⟨he, k, os, hw⟩ => by
    subst hw
    refine ⟨?_, only_of_below (Lib.below_grow _ w (Nat.le_refl _) k os)⟩
    rw [he]
    unfold Lib.itoa
    rw [if_neg (by omega)]
    rfl

theorem right_fin {t : Tm} {n d : Nat} (h : Fin t n d) (w : World) : Calls Tryd.prog 27 #[.agg #[.int .i64 n, .int .i64 d]] w fun e w' => e = .returned (.bool true) ∧ Only [] w w' := by
  have := rightr (a := t) h.ok h.right w
  rw [h.eq] at this
  exact this
theorem rightnv (w : World) : Calls Tryd.prog 27 #[.agg #[.int .i64 1, .int .i64 0]] w fun e w' => e = .returned (.bool true) ∧ Only [] w w' := rightr ok_never right_never w
theorem fin_one {t : Tm} {n : Nat} (h : Fin t n 1) : (∀ w, Calls Tryd.prog 31 #[.agg #[.int .i64 n, .int .i64 1]] w fun e w' => e = .returned (.bool true) ∧ Only [] w w') ∧ ∀ w, Calls Tryd.prog 27 #[.agg #[.int .i64 n, .int .i64 1]] w fun e w' => e = .returned (.bool true) ∧ Only [] w w' :=
  ⟨fun w => refr_fin h w, fun w => right_fin h w⟩
theorem refnever_one (n : Nat) (w : World) : Calls Tryd.prog 32 #[.agg #[.int .i64 n, .int .i64 1]] w fun e w' => e = .returned (.bool false) ∧ Only [] w w' := refnever_f (t := (n, 1)) (by simp) w
theorem refnever_w {t : Tm} (h : (decide (t.1 = 1) && decide (t.2 = 0)) = false) (w : World) : Calls Tryd.prog 32 #[.agg #[.int .i64 t.1, .int .i64 t.2]] w fun e w' => e = .returned (.bool false) ∧ Only [] w w' := by
  have := refnever_any t.1 t.2 w
  rwa [h] at this
def neverS : List UInt8 := [110, 101, 118, 101, 114]
/-- the text of a time -/
def textT (t : Tm) : List UInt8 :=
  if t.right = true then (if t.2 = 0 then neverS else if t.2 = 1 then Lib.decDigits t.1.toNat else Lib.decDigits t.1.toNat ++ [47] ++ Lib.decDigits t.2.toNat) else []

set_option maxHeartbeats 2000000 in
theorem text_w (a : Tm) (ha : a.ok) (ra : a.right = false) {w : World} :
    Calls Tryd.prog 34 #[.agg #[.int .i64 a.1, .int .i64 a.2]] w fun e w' => e = .returned (.string ⟨([] : List UInt8).toArray⟩) ∧ Only [] w w' := by
  have RA := Lib.hid ra
  clear ra
  have O0 := Lib.hid (Only.refl [] w)
  go_enter Tryd.func34, Tryd.ntmps34
  go_wp2_with (fail)
  refine (rightr ha RA.out _).mono ?_
  rintro e w1 ⟨rfl, o⟩
  have B0n : Blk (w.alloc (.cells #[.int .i64 a.1, .int .i64 a.2] 23)) (w.heap.size) 23 #[.int .i64 a.1, .int .i64 a.2] := (by have h := Blk.new w 23 #[.int .i64 a.1, .int .i64 a.2]; simpa using h)
  have B0x := o.blk (t := 23) (cs := #[.int .i64 a.1, .int .i64 a.2]) (g := w.heap.size) (by first | exact B0n | exact Blk.drewN B0n _ | exact Blk.drew B0n) (by simp)
  have O1x : Only [] w w1 := (by first | exact Only.trans (O0.out.alloc _) o (by simp) | exact Only.trans (Only.drewN (O0.out.alloc _) _) o (by simp) | exact Only.trans (Only.drew (O0.out.alloc _)) o (by simp))
  obtain ⟨B0c0, B0c1, B0l⟩ := B0x.facts2
  clear B0n O0 o
  have B0 := Lib.hid B0x; have O1 := Lib.hid O1x
  clear B0x O1x
  go_wp2_with (fail)
  go_ret
  exact ⟨rfl, O1.out⟩

set_option maxHeartbeats 2000000 in
theorem text_n   {w : World} :
    Calls Tryd.prog 34 #[.agg #[.int .i64 1, .int .i64 0]] w fun e w' => e = .returned (.string ⟨neverS.toArray⟩) ∧ Only [] w w' := by
  have O0 := Lib.hid (Only.refl [] w)
  go_enter Tryd.func34, Tryd.ntmps34
  go_wp2_with (fail)
  refine (rightnv _).mono ?_
  rintro e w1 ⟨rfl, o⟩
  have B0n : Blk (w.alloc (.cells #[.int .i64 1, .int .i64 0] 23)) (w.heap.size) 23 #[.int .i64 1, .int .i64 0] := (by have h := Blk.new w 23 #[.int .i64 1, .int .i64 0]; simpa using h)
  have B0x := o.blk (t := 23) (cs := #[.int .i64 1, .int .i64 0]) (g := w.heap.size) (by first | exact B0n | exact Blk.drewN B0n _ | exact Blk.drew B0n) (by simp)
  have O1x : Only [] w w1 := (by first | exact Only.trans (O0.out.alloc _) o (by simp) | exact Only.trans (Only.drewN (O0.out.alloc _) _) o (by simp) | exact Only.trans (Only.drew (O0.out.alloc _)) o (by simp))
  obtain ⟨B0c0, B0c1, B0l⟩ := B0x.facts2
  clear B0n O0 o
  have B0 := Lib.hid B0x; have O1 := Lib.hid O1x
  clear B0x O1x
  go_wp2_with (fail)
  go_ret
  exact ⟨rfl, O1.out⟩

set_option maxHeartbeats 2000000 in
theorem text_o {a : Tm} {n : Nat} (fa : Fin a n 1) {w : World} (ht : Tab10 w) :
    Calls Tryd.prog 34 #[.agg #[.int .i64 n, .int .i64 1]] w fun e w' => e = .returned (.string ⟨(Lib.decDigits n).toArray⟩) ∧ Only [] w w' := by
  obtain ⟨ln, ld, hn, hd⟩ := fa.len
  have e1 : ((1 : Nat) : Int) = 1 := rfl
  have fa' := fin_one fa
  have HT := Lib.hid ht
  clear ht
  have O0 := Lib.hid (Only.refl [] w)
  go_enter Tryd.func34, Tryd.ntmps34
  clear e1 ld
  go_wp2_with (fail)
  refine (fa'.2 _).mono ?_
  rintro e w1 ⟨rfl, o⟩
  have B0n : Blk (w.alloc (.cells #[.int .i64 n, .int .i64 1] 23)) (w.heap.size) 23 #[.int .i64 n, .int .i64 1] := (by have h := Blk.new w 23 #[.int .i64 n, .int .i64 1]; simpa using h)
  have B0x := o.blk (t := 23) (cs := #[.int .i64 n, .int .i64 1]) (g := w.heap.size) (by first | exact B0n | exact Blk.drewN B0n _ | exact Blk.drew B0n) (by simp)
  have O1x : Only [] w w1 := (by first | exact Only.trans (O0.out.alloc _) o (by simp) | exact Only.trans (Only.drewN (O0.out.alloc _) _) o (by simp) | exact Only.trans (Only.drew (O0.out.alloc _)) o (by simp))
  obtain ⟨B0c0, B0c1, B0l⟩ := B0x.facts2
  clear B0n O0 o
  have B0 := Lib.hid B0x; have O1 := Lib.hid O1x
  clear B0x O1x
  go_wp2_with (fail)
  refine (itoa_nat n (by omega) (HT.out.only O1.out)).mono ?_
  rintro e w2 ⟨rfl, o⟩
  have B0x := o.blk (t := 23) (cs := #[.int .i64 n, .int .i64 1]) (g := w.heap.size) (by first | exact B0.out | exact Blk.drewN B0.out _ | exact Blk.drew B0.out) (by simp)
  have O2x : Only [] w w2 := (by first | exact Only.trans O1.out o (by simp) | exact Only.trans (Only.drewN O1.out _) o (by simp) | exact Only.trans (Only.drew O1.out) o (by simp))
  obtain ⟨B0c0, B0c1, B0l⟩ := B0x.facts2
  clear B0 O1 o
  have B0 := Lib.hid B0x; have O2 := Lib.hid O2x
  clear B0x O2x
  go_wp2_with (fail)
  go_ret
  exact ⟨rfl, O2.out⟩

set_option maxHeartbeats 2000000 in
theorem text_f {a : Tm} {n d : Nat} (fa : Fin a n d) (h1 : d ≠ 1) {w : World} (ht : Tab10 w) :
    Calls Tryd.prog 34 #[.agg #[.int .i64 n, .int .i64 d]] w fun e w' => e = .returned (.string ⟨(Lib.decDigits n ++ [47] ++ Lib.decDigits d).toArray⟩) ∧ Only [] w w' := by
  obtain ⟨ln, ld, hn, hd⟩ := fa.len
  have pd := fa.pos
  have g0 : ((d : Int) == 0) = false := by simp; omega
  have g1 : ((d : Int) == 1) = false := by simp; omega
  have dn := decDigits_len n hn
  have dd := decDigits_len d hd
  clear ln ld pd h1
  have HT := Lib.hid ht
  clear ht
  have O0 := Lib.hid (Only.refl [] w)
  go_enter Tryd.func34, Tryd.ntmps34
  go_wp2_with (fail)
  refine (right_fin fa _).mono ?_
  rintro e w1 ⟨rfl, o⟩
  have B0n : Blk (w.alloc (.cells #[.int .i64 n, .int .i64 d] 23)) (w.heap.size) 23 #[.int .i64 n, .int .i64 d] := (by have h := Blk.new w 23 #[.int .i64 n, .int .i64 d]; simpa using h)
  have B0x := o.blk (t := 23) (cs := #[.int .i64 n, .int .i64 d]) (g := w.heap.size) (by first | exact B0n | exact Blk.drewN B0n _ | exact Blk.drew B0n) (by simp)
  have O1x : Only [] w w1 := (by first | exact Only.trans (O0.out.alloc _) o (by simp) | exact Only.trans (Only.drewN (O0.out.alloc _) _) o (by simp) | exact Only.trans (Only.drew (O0.out.alloc _)) o (by simp))
  obtain ⟨B0c0, B0c1, B0l⟩ := B0x.facts2
  clear B0n O0 o
  have B0 := Lib.hid B0x; have O1 := Lib.hid O1x
  clear B0x O1x
  go_wp2_with (fail)
  refine wp_region_facts 8 [] (fr := ?fr) (tl := ?tl) (fun i v wv => match i with
    | 0 => v = .pointer (some ⟨w.heap.size, 0, none⟩)
    | 1 => v = .int .i64 n
    | 2 => v = .string ⟨(Lib.decDigits n).toArray⟩
    | 3 => v = .string ⟨(Lib.decDigits n ++ [47]).toArray⟩
    | 4 => v = .pointer (some ⟨w.heap.size, 1, none⟩)
    | 5 => v = .int .i64 d
    | 6 => v = .string ⟨(Lib.decDigits d).toArray⟩
    | 7 => v = .string ⟨(Lib.decDigits n ++ [47] ++ Lib.decDigits d).toArray⟩
    | _ => True) (by kernel_rfl) (by kernel_rfl) (by kernel_rfl) (by kernel_rfl) (by decide) ?htl ?hfr ?stab ?steps ?done
  case htl => simp only [List.drop_succ_cons, List.drop_zero]; rfl
  case hfr => intro vals; simp only [putAll, dstAt, Act.put, List.getElem?_toArray, List.getElem?_cons_zero, List.getElem?_cons_succ, Option.bind_some, List.setIfInBounds_toArray, List.set_cons_zero, List.set_cons_succ]; rfl
  case stab =>
    intro i v wa wb h
    try dsimp only
    split <;> first | exact id | fail
  case steps =>
    refine ⟨?_, ?_, ?_, ?_, ?_, ?_, ?_, ?_, trivial⟩
    · intro vals wr hR hp K hK
      dsimp only at hK ⊢
      clear hp
      unfold RunsOp
      go_simp
      exact hK.out _ _ ⟨_, rfl, Only.refl _ _, rfl⟩
    · intro vals wr hR hp K hK
      dsimp only at hK ⊢
      obtain ⟨p0, -⟩ := hp
      replace p0 := p0 rfl
      dsimp only at p0
      rw [p0] at hK ⊢
      clear p0
      unfold RunsOp
      have tb := hR.blk (Blk.drew B0.out) (by simp)
      obtain ⟨c0, c1, cl⟩ := tb.facts2
      clear tb
      go_simp
      exact hK.out _ _ ⟨_, rfl, Only.refl _ _, rfl⟩
    · intro vals wr hR hp K hK
      dsimp only at hK ⊢
      obtain ⟨p1, -⟩ := hp
      replace p1 := p1 rfl
      dsimp only at p1
      rw [p1] at hK ⊢
      clear p1
      unfold RunsOp
      have tt := HT.out.only (O1.out.drew.trans hR (by simp))
      go_simp
      refine (itoa_nat n (by omega) tt).mono ?_
      rintro e w2 ⟨rfl, o2⟩
      exact hK.out _ _ ⟨_, rfl, o2, rfl⟩
    · intro vals wr hR hp K hK
      dsimp only at hK ⊢
      obtain ⟨p2, -⟩ := hp
      replace p2 := p2 rfl
      dsimp only at p2
      obtain p2 := p2
      rw [p2] at hK ⊢
      clear p2
      unfold RunsOp
      have hc : ¬ 9223372036854775807 < (Lib.decDigits n).length + 1 := by omega
      go_simp
      refine hK.out _ _ ⟨_, rfl, Only.refl _ _, ?_⟩
      show Value.string _ = Value.string _
      rw [str_app]; simp
    · intro vals wr hR hp K hK
      dsimp only at hK ⊢
      clear hp
      unfold RunsOp
      go_simp
      exact hK.out _ _ ⟨_, rfl, Only.refl _ _, rfl⟩
    · intro vals wr hR hp K hK
      dsimp only at hK ⊢
      obtain ⟨p4, -⟩ := hp
      replace p4 := p4 rfl
      dsimp only at p4
      rw [p4] at hK ⊢
      clear p4
      unfold RunsOp
      have tb := hR.blk (Blk.drew B0.out) (by simp)
      obtain ⟨c0, c1, cl⟩ := tb.facts2
      clear tb
      go_simp
      exact hK.out _ _ ⟨_, rfl, Only.refl _ _, rfl⟩
    · intro vals wr hR hp K hK
      dsimp only at hK ⊢
      obtain ⟨p5, -, -⟩ := hp
      replace p5 := p5 rfl
      dsimp only at p5
      rw [p5] at hK ⊢
      clear p5
      unfold RunsOp
      have tt := HT.out.only (O1.out.drew.trans hR (by simp))
      go_simp
      refine (itoa_nat d (by omega) tt).mono ?_
      rintro e w2 ⟨rfl, o2⟩
      exact hK.out _ _ ⟨_, rfl, o2, rfl⟩
    · intro vals wr hR hp K hK
      dsimp only at hK ⊢
      obtain ⟨p3, p6, -⟩ := hp
      replace p3 := p3 rfl
      replace p6 := p6 rfl
      dsimp only at p3 p6
      obtain p3 := p3
      obtain p6 := p6
      rw [p3, p6] at hK ⊢
      clear p3 p6
      unfold RunsOp
      have hc : ¬ 9223372036854775807 < (Lib.decDigits n).length + 1 + (Lib.decDigits d).length := by omega
      go_simp
      refine hK.out _ _ ⟨_, rfl, Only.refl _ _, ?_⟩
      show Value.string _ = Value.string _
      rw [str_app]; simp
  case done =>
    intro vals wd hR hF
    have f7 : vals 7 = .string ⟨(Lib.decDigits n ++ [47] ++ Lib.decDigits d).toArray⟩ := hF 7 (by decide)
    rw [f7]
    have O9 := Lib.hid (Only.trans (O1.out.drew) hR (by simp))
    clear hF f7 hR
    go_wp2_with (fail)
    go_ret
    exact ⟨rfl, O9.out⟩

set_option maxHeartbeats 2000000 in
theorem reftext_w (a : Tm) (ha : a.ok) (ra : a.right = false) (h0 : (decide (a.1 = 1) && decide (a.2 = 0)) = false) {w : World} :
    Calls Tryd.prog 36 #[.agg #[.int .i64 a.1, .int .i64 a.2]] w fun e w' => e = .returned (.string ⟨([] : List UInt8).toArray⟩) ∧ Only [] w w' := by
  have RA := Lib.hid ra
  have HN := Lib.hid h0
  clear ra h0
  have O0 := Lib.hid (Only.refl [] w)
  go_enter Tryd.func36, Tryd.ntmps36
  go_wp2_with (fail)
  refine (refnever_w HN.out _).mono ?_
  rintro e w1 ⟨rfl, o⟩
  have B0n : Blk (w.alloc (.cells #[.int .i64 a.1, .int .i64 a.2] 23)) (w.heap.size) 23 #[.int .i64 a.1, .int .i64 a.2] := (by have h := Blk.new w 23 #[.int .i64 a.1, .int .i64 a.2]; simpa using h)
  have B0x := o.blk (t := 23) (cs := #[.int .i64 a.1, .int .i64 a.2]) (g := w.heap.size) (by first | exact B0n | exact Blk.drewN B0n _ | exact Blk.drew B0n) (by simp)
  have O1x : Only [] w w1 := (by first | exact Only.trans (O0.out.alloc _) o (by simp) | exact Only.trans (Only.drewN (O0.out.alloc _) _) o (by simp) | exact Only.trans (Only.drew (O0.out.alloc _)) o (by simp))
  obtain ⟨B0c0, B0c1, B0l⟩ := B0x.facts2
  clear B0n O0 o
  have B0 := Lib.hid B0x; have O1 := Lib.hid O1x
  clear B0x O1x
  go_wp2_with (fail)
  refine (refr_f ha RA.out _).mono ?_
  rintro e w2 ⟨rfl, o⟩
  have B0x := o.blk (t := 23) (cs := #[.int .i64 a.1, .int .i64 a.2]) (g := w.heap.size) (by first | exact B0.out | exact Blk.drewN B0.out _ | exact Blk.drew B0.out) (by simp)
  have O2x : Only [] w w2 := (by first | exact Only.trans O1.out o (by simp) | exact Only.trans (Only.drewN O1.out _) o (by simp) | exact Only.trans (Only.drew O1.out) o (by simp))
  obtain ⟨B0c0, B0c1, B0l⟩ := B0x.facts2
  clear B0 O1 o
  have B0 := Lib.hid B0x; have O2 := Lib.hid O2x
  clear B0x O2x
  go_wp2_with (fail)
  go_ret
  exact ⟨rfl, O2.out⟩

set_option maxHeartbeats 2000000 in
theorem reftext_n   {w : World} :
    Calls Tryd.prog 36 #[.agg #[.int .i64 1, .int .i64 0]] w fun e w' => e = .returned (.string ⟨neverS.toArray⟩) ∧ Only [] w w' := by
  have O0 := Lib.hid (Only.refl [] w)
  go_enter Tryd.func36, Tryd.ntmps36
  go_wp2_with (fail)
  refine (refnever_t _).mono ?_
  rintro e w1 ⟨rfl, o⟩
  have B0n : Blk (w.alloc (.cells #[.int .i64 1, .int .i64 0] 23)) (w.heap.size) 23 #[.int .i64 1, .int .i64 0] := (by have h := Blk.new w 23 #[.int .i64 1, .int .i64 0]; simpa using h)
  have B0x := o.blk (t := 23) (cs := #[.int .i64 1, .int .i64 0]) (g := w.heap.size) (by first | exact B0n | exact Blk.drewN B0n _ | exact Blk.drew B0n) (by simp)
  have O1x : Only [] w w1 := (by first | exact Only.trans (O0.out.alloc _) o (by simp) | exact Only.trans (Only.drewN (O0.out.alloc _) _) o (by simp) | exact Only.trans (Only.drew (O0.out.alloc _)) o (by simp))
  obtain ⟨B0c0, B0c1, B0l⟩ := B0x.facts2
  clear B0n O0 o
  have B0 := Lib.hid B0x; have O1 := Lib.hid O1x
  clear B0x O1x
  go_wp2_with (fail)
  go_ret
  exact ⟨rfl, O1.out⟩

set_option maxHeartbeats 2000000 in
theorem reftext_o {a : Tm} {n : Nat} (fa : Fin a n 1) {w : World} :
    Calls Tryd.prog 36 #[.agg #[.int .i64 n, .int .i64 1]] w fun e w' => e = .returned (.string ⟨(Lib.decDigits n).toArray⟩) ∧ Only [] w w' := by
  obtain ⟨ln, ld, hn, hd⟩ := fa.len
  have e1 : ((1 : Nat) : Int) = 1 := rfl
  have fa' := fin_one fa
  have O0 := Lib.hid (Only.refl [] w)
  go_enter Tryd.func36, Tryd.ntmps36
  clear e1 ld
  go_wp2_with (fail)
  refine (refnever_one n _).mono ?_
  rintro e w1 ⟨rfl, o⟩
  have B0n : Blk (w.alloc (.cells #[.int .i64 n, .int .i64 1] 23)) (w.heap.size) 23 #[.int .i64 n, .int .i64 1] := (by have h := Blk.new w 23 #[.int .i64 n, .int .i64 1]; simpa using h)
  have B0x := o.blk (t := 23) (cs := #[.int .i64 n, .int .i64 1]) (g := w.heap.size) (by first | exact B0n | exact Blk.drewN B0n _ | exact Blk.drew B0n) (by simp)
  have O1x : Only [] w w1 := (by first | exact Only.trans (O0.out.alloc _) o (by simp) | exact Only.trans (Only.drewN (O0.out.alloc _) _) o (by simp) | exact Only.trans (Only.drew (O0.out.alloc _)) o (by simp))
  obtain ⟨B0c0, B0c1, B0l⟩ := B0x.facts2
  clear B0n O0 o
  have B0 := Lib.hid B0x; have O1 := Lib.hid O1x
  clear B0x O1x
  go_wp2_with (fail)
  refine (fa'.1 _).mono ?_
  rintro e w2 ⟨rfl, o⟩
  have B0x := o.blk (t := 23) (cs := #[.int .i64 n, .int .i64 1]) (g := w.heap.size) (by first | exact B0.out | exact Blk.drewN B0.out _ | exact Blk.drew B0.out) (by simp)
  have O2x : Only [] w w2 := (by first | exact Only.trans O1.out o (by simp) | exact Only.trans (Only.drewN O1.out _) o (by simp) | exact Only.trans (Only.drew O1.out) o (by simp))
  obtain ⟨B0c0, B0c1, B0l⟩ := B0x.facts2
  clear B0 O1 o
  have B0 := Lib.hid B0x; have O2 := Lib.hid O2x
  clear B0x O2x
  clear fa'
  go_wp2_with (fail)
  refine (dec_any n (by omega) _).mono ?_
  rintro e w3 ⟨rfl, o⟩
  have B0x := o.blk (t := 23) (cs := #[.int .i64 n, .int .i64 1]) (g := w.heap.size) (by first | exact B0.out | exact Blk.drewN B0.out _ | exact Blk.drew B0.out) (by simp)
  have O3x : Only [] w w3 := (by first | exact Only.trans O2.out o (by simp) | exact Only.trans (Only.drewN O2.out _) o (by simp) | exact Only.trans (Only.drew O2.out) o (by simp))
  obtain ⟨B0c0, B0c1, B0l⟩ := B0x.facts2
  clear B0 O2 o
  have B0 := Lib.hid B0x; have O3 := Lib.hid O3x
  clear B0x O3x
  go_wp2_with (fail)
  go_ret
  exact ⟨rfl, O3.out⟩

set_option maxHeartbeats 2000000 in
theorem reftext_f {a : Tm} {n d : Nat} (fa : Fin a n d) (h1 : d ≠ 1) {w : World} :
    Calls Tryd.prog 36 #[.agg #[.int .i64 n, .int .i64 d]] w fun e w' => e = .returned (.string ⟨(Lib.decDigits n ++ [47] ++ Lib.decDigits d).toArray⟩) ∧ Only [] w w' := by
  obtain ⟨ln, ld, hn, hd⟩ := fa.len
  have pd := fa.pos
  have g0 : ((d : Int) == 0) = false := by simp; omega
  have g1 : ((d : Int) == 1) = false := by simp; omega
  have dn := decDigits_len n hn
  have dd := decDigits_len d hd
  clear ln ld pd h1
  have O0 := Lib.hid (Only.refl [] w)
  go_enter Tryd.func36, Tryd.ntmps36
  go_wp2_with (fail)
  refine (refnever_fin fa _).mono ?_
  rintro e w1 ⟨rfl, o⟩
  have B0n : Blk (w.alloc (.cells #[.int .i64 n, .int .i64 d] 23)) (w.heap.size) 23 #[.int .i64 n, .int .i64 d] := (by have h := Blk.new w 23 #[.int .i64 n, .int .i64 d]; simpa using h)
  have B0x := o.blk (t := 23) (cs := #[.int .i64 n, .int .i64 d]) (g := w.heap.size) (by first | exact B0n | exact Blk.drewN B0n _ | exact Blk.drew B0n) (by simp)
  have O1x : Only [] w w1 := (by first | exact Only.trans (O0.out.alloc _) o (by simp) | exact Only.trans (Only.drewN (O0.out.alloc _) _) o (by simp) | exact Only.trans (Only.drew (O0.out.alloc _)) o (by simp))
  obtain ⟨B0c0, B0c1, B0l⟩ := B0x.facts2
  clear B0n O0 o
  have B0 := Lib.hid B0x; have O1 := Lib.hid O1x
  clear B0x O1x
  go_wp2_with (fail)
  refine (refr_fin fa _).mono ?_
  rintro e w2 ⟨rfl, o⟩
  have B0x := o.blk (t := 23) (cs := #[.int .i64 n, .int .i64 d]) (g := w.heap.size) (by first | exact B0.out | exact Blk.drewN B0.out _ | exact Blk.drew B0.out) (by simp)
  have O2x : Only [] w w2 := (by first | exact Only.trans O1.out o (by simp) | exact Only.trans (Only.drewN O1.out _) o (by simp) | exact Only.trans (Only.drew O1.out) o (by simp))
  obtain ⟨B0c0, B0c1, B0l⟩ := B0x.facts2
  clear B0 O1 o
  have B0 := Lib.hid B0x; have O2 := Lib.hid O2x
  clear B0x O2x
  go_wp2_with (fail)
  refine wp_region_facts 8 [] (fr := ?fr) (tl := ?tl) (fun i v wv => match i with
    | 0 => v = .pointer (some ⟨w.heap.size, 0, none⟩)
    | 1 => v = .int .i64 n
    | 2 => v = .string ⟨(Lib.decDigits n).toArray⟩
    | 3 => v = .string ⟨(Lib.decDigits n ++ [47]).toArray⟩
    | 4 => v = .pointer (some ⟨w.heap.size, 1, none⟩)
    | 5 => v = .int .i64 d
    | 6 => v = .string ⟨(Lib.decDigits d).toArray⟩
    | 7 => v = .string ⟨(Lib.decDigits n ++ [47] ++ Lib.decDigits d).toArray⟩
    | _ => True) (by kernel_rfl) (by kernel_rfl) (by kernel_rfl) (by kernel_rfl) (by decide) ?htl ?hfr ?stab ?steps ?done
  case htl => simp only [List.drop_succ_cons, List.drop_zero]; rfl
  case hfr => intro vals; simp only [putAll, dstAt, Act.put, List.getElem?_toArray, List.getElem?_cons_zero, List.getElem?_cons_succ, Option.bind_some, List.setIfInBounds_toArray, List.set_cons_zero, List.set_cons_succ]; rfl
  case stab =>
    intro i v wa wb h
    try dsimp only
    split <;> first | exact id | fail
  case steps =>
    refine ⟨?_, ?_, ?_, ?_, ?_, ?_, ?_, ?_, trivial⟩
    · intro vals wr hR hp K hK
      dsimp only at hK ⊢
      clear hp
      unfold RunsOp
      go_simp
      exact hK.out _ _ ⟨_, rfl, Only.refl _ _, rfl⟩
    · intro vals wr hR hp K hK
      dsimp only at hK ⊢
      obtain ⟨p0, -⟩ := hp
      replace p0 := p0 rfl
      dsimp only at p0
      rw [p0] at hK ⊢
      clear p0
      unfold RunsOp
      have tb := hR.blk (Blk.drew B0.out) (by simp)
      obtain ⟨c0, c1, cl⟩ := tb.facts2
      clear tb
      go_simp
      exact hK.out _ _ ⟨_, rfl, Only.refl _ _, rfl⟩
    · intro vals wr hR hp K hK
      dsimp only at hK ⊢
      obtain ⟨p1, -⟩ := hp
      replace p1 := p1 rfl
      dsimp only at p1
      rw [p1] at hK ⊢
      clear p1
      unfold RunsOp
      go_simp
      refine (dec_any n (by omega) _).mono ?_
      rintro e w2 ⟨rfl, o2⟩
      exact hK.out _ _ ⟨_, rfl, o2, rfl⟩
    · intro vals wr hR hp K hK
      dsimp only at hK ⊢
      obtain ⟨p2, -⟩ := hp
      replace p2 := p2 rfl
      dsimp only at p2
      obtain p2 := p2
      rw [p2] at hK ⊢
      clear p2
      unfold RunsOp
      have hc : ¬ 9223372036854775807 < (Lib.decDigits n).length + 1 := by omega
      go_simp
      refine hK.out _ _ ⟨_, rfl, Only.refl _ _, ?_⟩
      show Value.string _ = Value.string _
      rw [str_app]; simp
    · intro vals wr hR hp K hK
      dsimp only at hK ⊢
      clear hp
      unfold RunsOp
      go_simp
      exact hK.out _ _ ⟨_, rfl, Only.refl _ _, rfl⟩
    · intro vals wr hR hp K hK
      dsimp only at hK ⊢
      obtain ⟨p4, -⟩ := hp
      replace p4 := p4 rfl
      dsimp only at p4
      rw [p4] at hK ⊢
      clear p4
      unfold RunsOp
      have tb := hR.blk (Blk.drew B0.out) (by simp)
      obtain ⟨c0, c1, cl⟩ := tb.facts2
      clear tb
      go_simp
      exact hK.out _ _ ⟨_, rfl, Only.refl _ _, rfl⟩
    · intro vals wr hR hp K hK
      dsimp only at hK ⊢
      obtain ⟨p5, -, -⟩ := hp
      replace p5 := p5 rfl
      dsimp only at p5
      rw [p5] at hK ⊢
      clear p5
      unfold RunsOp
      go_simp
      refine (dec_any d (by omega) _).mono ?_
      rintro e w2 ⟨rfl, o2⟩
      exact hK.out _ _ ⟨_, rfl, o2, rfl⟩
    · intro vals wr hR hp K hK
      dsimp only at hK ⊢
      obtain ⟨p3, p6, -⟩ := hp
      replace p3 := p3 rfl
      replace p6 := p6 rfl
      dsimp only at p3 p6
      obtain p3 := p3
      obtain p6 := p6
      rw [p3, p6] at hK ⊢
      clear p3 p6
      unfold RunsOp
      have hc : ¬ 9223372036854775807 < (Lib.decDigits n).length + 1 + (Lib.decDigits d).length := by omega
      go_simp
      refine hK.out _ _ ⟨_, rfl, Only.refl _ _, ?_⟩
      show Value.string _ = Value.string _
      rw [str_app]; simp
  case done =>
    intro vals wd hR hF
    have f7 : vals 7 = .string ⟨(Lib.decDigits n ++ [47] ++ Lib.decDigits d).toArray⟩ := hF 7 (by decide)
    rw [f7]
    have O9 := Lib.hid (Only.trans (O2.out.drew) hR (by simp))
    clear hF f7 hR
    go_wp2_with (fail)
    go_ret
    exact ⟨rfl, O9.out⟩


theorem text_any (t : Tm) (ho : t.ok) {w : World} (ht : Tab10 w) :
    Calls Tryd.prog 34 #[.agg #[.int .i64 t.1, .int .i64 t.2]] w fun e w' => e = .returned (.string ⟨(textT t).toArray⟩) ∧ Only [] w w' := by
  unfold textT
  by_cases h : t.right = true
  · rw [if_pos h]
    rcases right_cases ho h with rfl | ⟨n, d, fa⟩
    · exact text_n
    · have hp := fa.pos
      rw [fa.eq]
      simp only
      rw [if_neg (by omega)]
      by_cases h1 : d = 1
      · subst h1; exact text_o fa ht
      · rw [if_neg (by omega)]; exact text_f fa h1 ht
  · rw [if_neg h]; exact text_w t ho (by simpa using h)
theorem reftext_any (t : Tm) (ho : t.ok) {w : World} :
    Calls Tryd.prog 36 #[.agg #[.int .i64 t.1, .int .i64 t.2]] w fun e w' => e = .returned (.string ⟨(textT t).toArray⟩) ∧ Only [] w w' := by
  unfold textT
  by_cases h : t.right = true
  · rw [if_pos h]
    rcases right_cases ho h with rfl | ⟨n, d, fa⟩
    · exact reftext_n
    · have hp := fa.pos
      rw [fa.eq]
      simp only
      rw [if_neg (by omega)]
      by_cases h1 : d = 1
      · subst h1; exact reftext_o fa
      · rw [if_neg (by omega)]; exact reftext_f fa h1
  · rw [if_neg h]
    refine reftext_w t ho (by simpa using h) ?_
    by_cases h2 : t.1 = 1 ∧ t.2 = 0
    · exact absurd (by rw [show t = (1, 0) from Prod.ext h2.1 h2.2]; exact right_never) h
    · simp; omega
end Go.Proofs.YtoefekgfklillaaDoor
