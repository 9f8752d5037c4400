/- TrackFrom: the law's own walk. -/
import Derived.Test.YtcggeogpanackaaFromS
import Derived.Test.YtcggeogpanackaaParts
import Derived.Test.YtcggeogpanackaaRPut
import Derived.Test.YtcggeogpanackaaFactsIn
import Derived.Test.YtcggeogpanackaaRangeA
namespace Go.Proofs.Ytcggeogpanackaa
open Go.RowKit Go.Kx
attribute [local go_sem] Oper.semAt_some
set_option maxRecDepth 100000

structure GK (w : World) (N rb zb wb : Nat) (z : Int) (AW : Option Addr) (mW cW : Nat) (M : List En) (W : World) : Prop where
  o : Only [] w W
  r : Blk W rb 4 #[.bool false]
  zz : Blk W zb 5 #[.int .u8 z]
  ww : Blk W wb 32 #[.slice AW mW cW]
  row : Row4 W AW M
  rowN : ∀ p, AW = some p → p.block < N
  h1 : rb < N
  h2 : zb < N
  h3 : wb < N
  h4 : w.heap.size ≤ N
theorem GK.step {w : World} {N rb zb wb : Nat} {z : Int} {AW : Option Addr} {mW cW : Nat} {M : List En} {W W' : World} {S : List Nat} (h : GK w N rb zb wb z AW mW cW M W) (o : Only S W W') (hS : ∀ b ∈ S, N ≤ b) : GK w N rb zb wb z AW mW cW M W' :=
  ⟨h.o.trans o (fun x hx => .inr (by have := hS x hx; have := h.h4; omega)), o.blk h.r (fun k => by have := hS _ k; have := h.h1; omega), o.blk h.zz (fun k => by have := hS _ k; have := h.h2; omega), o.blk h.ww (fun k => by have := hS _ k; have := h.h3; omega),
    h.row.besides o (fun p hp k => by have := hS _ k; have := h.rowN p hp; omega), h.rowN, h.h1, h.h2, h.h3, h.h4⟩
theorem GK.keepC {w : World} {N rb zb wb : Nat} {z : Int} {AW : Option Addr} {mW cW : Nat} {M : List En} {W W' : World} {B : Nat} (h : GK w N rb zb wb z AW mW cW M W) (hk : KeepC B W W') (hB : w.heap.size ≤ B) : GK w N rb zb wb z AW mW cW M W' := by
  have hs := hk.size
  exact ⟨h.o.keepC hk hB, hk.blk h.r, hk.blk h.zz, hk.blk h.ww, fun j u hu => by obtain ⟨b, o, hA, hb, hc⟩ := h.row j u hu; exact ⟨b, o, hA, by omega, hk.cell hc⟩, h.rowN, h.h1, h.h2, h.h3, h.h4⟩
theorem neq_st34 (s : St) (W : World) : (binOp .neq 34 (.agg #[.int .i64 s.1.1, .int .i64 s.1.2, .int .i64 s.2]) (.agg #[.int .i64 s.1.1, .int .i64 s.1.2, .int .i64 s.2])).run Try.prog W = .ok (.bool false) W := by
  simp [go_sem]
theorem from_many {A : Option Addr} {cap : Nat} {L : List St} {s : St} {z : Int} {w : World} (hl : 200 < L.length) (hlen : L.length ≤ 9223372036854775807) :
    Calls Try.prog 3 #[.slice A L.length cap, .agg #[.int .i64 s.1.1, .int .i64 s.1.2, .int .i64 s.2], .int .u8 z] w fun e w' => e = .returned (.bool true) ∧ Only [] w w' := by
  have hg : decide ((200 : Int) < (L.length : Int)) = true := by simp; omega
  go_enter Try.func3, Try.ntmps3
  go_wp2_with (fail)
  refine (awake_any _).mono ?_
  rintro e w1 ⟨rfl, o1⟩
  have hb := o1.blk (t := 4) (cs := #[.bool false]) (g := w.heap.size + 1 + 1) (by have h := Blk.new ((w.alloc (.cells #[.int .i64 s.1.1, .int .i64 s.1.2, .int .i64 s.2] 26)).alloc (.cells #[.int .u8 z] 5)) 4 #[.bool false]; simpa using h) (by simp)
  have O1 : Only [] w w1 := ((((Only.refl [] w).alloc _).alloc _).alloc _).trans o1 (by simp)
  have HO1 := Lib.hid O1
  clear O1 o1
  go_wp2_with (fail)
  refine (awake_any _).mono ?_
  rintro e w2 ⟨rfl, o2⟩
  obtain ⟨c0, cl⟩ := (o2.blk hb (by simp)).facts1
  have fr := (o2.blk hb (by simp)).frozen 0
  have HO2 := Lib.hid (HO1.out.trans o2 (by simp))
  clear o2
  go_wp2_with (fail)
  exact bodyPost_ret (v := .bool true) (by simp [results, Try.results3, go_sem, c0]) rfl ⟨rfl, HO2.out.setCell (.inr (by simp; omega)) _⟩

set_option maxHeartbeats 4000000 in
theorem from_few {A : Option Addr} {cap : Nat} {L : List St} {s : St} {z : Int} {w : World} (hL : Stamps w A L) (hl : L.length ≤ 200) (oS : s.ok) (hz0 : 0 ≤ z) (hz1 : z ≤ 255) :
    Calls Try.prog 3 #[.slice A L.length cap, .agg #[.int .i64 s.1.1, .int .i64 s.1.2, .int .i64 s.2], .int .u8 z] w fun e w' => e = .returned (.bool true) ∧ Only [] w w' := by
  have hg : decide ((200 : Int) < (L.length : Int)) = false := by simp; omega
  have HL := Lib.hid hL
  clear hL
  refine calls_marks Try.func3 rfl ?_
  simp only [Try.ntmps3, List.size_toArray, List.length_cons, List.length_nil, Nat.reduceAdd, Nat.reduceSub, Array.replicate_succ, Array.replicate_zero, List.push_toArray, List.append_toArray, List.nil_append, List.cons_append]
  obtain ⟨W3, hW3⟩ : ∃ W3, ((w.alloc (.cells #[.int .i64 s.1.1, .int .i64 s.1.2, .int .i64 s.2] 26)).alloc (.cells #[.int .u8 z] 5)).alloc (.cells #[.bool false] 4) = W3 := ⟨_, rfl⟩
  have ba : Blk W3 w.heap.size 26 #[.int .i64 s.1.1, .int .i64 s.1.2, .int .i64 s.2] := by rw [← hW3]; exact ((Blk.new w 26 _).alloc _).alloc _
  have bb : Blk W3 (w.heap.size + 1) 5 #[.int .u8 z] := by rw [← hW3]; have h := Blk.new (w.alloc (.cells #[.int .i64 s.1.1, .int .i64 s.1.2, .int .i64 s.2] 26)) 5 #[.int .u8 z]; simpa using h.alloc _
  have br : Blk W3 (w.heap.size + 1 + 1) 4 #[.bool false] := by rw [← hW3]; have h := Blk.new ((w.alloc (.cells #[.int .i64 s.1.1, .int .i64 s.1.2, .int .i64 s.2] 26)).alloc (.cells #[.int .u8 z] 5)) 4 #[.bool false]; simpa using h
  have oo : Only [] w W3 := by rw [← hW3]; exact (((Only.refl [] w).alloc _).alloc _).alloc _
  go_wp2_with (fail)
  refine (awake_any _).mono ?_
  rintro e w4 ⟨rfl, o4⟩
  have K4 := Lib.hid (And.intro (oo.trans o4 (by simp)) (And.intro (o4.blk ba (by simp)) (And.intro (o4.blk bb (by simp)) (o4.blk br (by simp)))))
  have hs4 := o4.size
  have hlb := br.lt
  clear o4 oo ba bb br
  go_wp2_with (fail)
  refine (new_any (room := 200) (by decide) (by decide) w4 (B := w4.heap.size) (Nat.le_refl _)).mono ?_
  rintro e w5 ⟨rfl, T5, o5⟩
  have HT := Lib.hid T5
  have K5 := Lib.hid (And.intro (K4.out.1.trans o5 (by simp)) (And.intro (o5.blk K4.out.2.1 (by simp)) (And.intro (o5.blk K4.out.2.2.1 (by simp)) (o5.blk K4.out.2.2.2 (by simp)))))
  obtain ⟨g, hgd⟩ : ∃ g, w4.heap.size = g := ⟨_, rfl⟩
  rw [hgd] at HT ⊢
  have hgl : w.heap.size + 1 + 1 < g := by omega
  clear T5 o5 K4 hs4 hlb hgd
  go_wp2_with (fail)
  go_loopw [9, 10] (fun v i wr => ∃ (k : Nat) (A1 : Option Addr) (c1 : Nat) (E : List En) (AP : Option Addr) (cP : Nat), i = .int .i64 k ∧ v = .slice AP E.length cP ∧ k ≤ L.length ∧ E.length ≤ k ∧ Trk E ∧ TB g wr g 200 E A1 c1 ∧ wr.ownsRow g 45 4 (.slice AP E.length cP) E.length (flat4 E) ∧ Only [] w wr ∧ Blk wr w.heap.size 26 #[.int .i64 s.1.1, .int .i64 s.1.2, .int .i64 s.2] ∧ Blk wr (w.heap.size + 1) 5 #[.int .u8 z] ∧ Blk wr (w.heap.size + 1 + 1) 4 #[.bool false]) (fun _ i _ => L.length - (intOf i).toNat)
  case atStart => exact ⟨0, none, 0, [], none, 0, rfl, rfl, Nat.zero_le _, Nat.le_refl _, Trk.nil, HT.out, World.ownsRow_nil _ _ _ _, K5.out.1, K5.out.2.1, K5.out.2.2.1, K5.out.2.2.2⟩
  case round =>
    clear HT K5
    obtain ⟨k, A1, c1, E, AP, cP, rfl, rfl, hk, hE, hTr, hT, hP, hO, ba, bb, br⟩ := hrel
    by_cases hlt : k < L.length
    · obtain ⟨os, b1, o1, hA, hb, c0, c1', c2⟩ := (HL.out.only hO) k L[k] (List.getElem?_eq_getElem hlt)
      have hbw : b1 < w.heap.size := by
        obtain ⟨_, b2, o2, hA2, hb2, _⟩ := HL.out k L[k] (List.getElem?_eq_getElem hlt)
        rw [hA] at hA2; cases hA2; exact hb2
      generalize L[k] = q at os c0 c1' c2
      subst hA
      have HT := Lib.hid hT
      have HTr := Lib.hid hTr
      have HP := Lib.hid hP
      have K1 := Lib.hid (And.intro hO (And.intro ba (And.intro bb br)))
      have HC := Lib.hid (And.intro c0 (And.intro c1' c2))
      clear hT hTr hP hO ba bb br
      go_wp2_with (fail)
      refine (of_any q _).mono ?_
      rintro e w6 ⟨rfl, o6⟩
      have T6 := HT.out.keep o6
      have hsz := T6.blk.lt
      have hp := put_any (s := q) (x := (k : Int)) T6 HTr.out os (by omega) (by omega)
      go_wp2_with (fail)
      refine hp.mono ?_
      clear hp
      rintro e w7 ⟨rfl, A2, c2', T7, o7, -⟩
      have hSg : ∀ y ∈ g :: A1.toList.map (·.block), g ≤ y := T6.above
      have P6 : w6.ownsRow g 45 4 (.slice AP E.length cP) E.length (flat4 E) := ownsRow_only o6 HP.out (fun _ _ => by simp)
      have P7 := ownsRow_only o7 P6 (T6.own_other P6 (by decide) (by decide))
      have O7 : Only [] w w7 := (K1.out.1.trans o6 (by simp)).trans o7 (fun y hy => .inr (by have := hSg y hy; omega))
      have hs6 := o6.size
      have d0 := (o7.cell (p := ⟨b1, o1 + k * 3, none⟩) (by simp; omega) (fun h => by have := hSg _ h; simp at this; omega)).trans ((o6.cell (p := ⟨b1, o1 + k * 3, none⟩) hb (by simp)).trans HC.out.1)
      have d1 := (o7.cell (p := ⟨b1, o1 + k * 3 + 1, none⟩) (by simp; omega) (fun h => by have := hSg _ h; simp at this; omega)).trans ((o6.cell (p := ⟨b1, o1 + k * 3 + 1, none⟩) hb (by simp)).trans HC.out.2.1)
      have d2 := (o7.cell (p := ⟨b1, o1 + k * 3 + 2, none⟩) (by simp; omega) (fun h => by have := hSg _ h; simp at this; omega)).trans ((o6.cell (p := ⟨b1, o1 + k * 3 + 2, none⟩) hb (by simp)).trans HC.out.2.2)
      have ba7 := o7.blk (o6.blk K1.out.2.1 (by simp)) (fun h => by have := hSg _ h; omega)
      have bb7 := o7.blk (o6.blk K1.out.2.2.1 (by simp)) (fun h => by have := hSg _ h; omega)
      have br7 := o7.blk (o6.blk K1.out.2.2.2 (by simp)) (fun h => by have := hSg _ h; omega)
      have hrp := rput_any (x := (k : Int)) (room := 200) P7 rfl (Nat.le_of_lt T7.blk.lt) HTr.out os (by omega)
      have HT7 := Lib.hid T7
      have HP7 := Lib.hid P7
      have K7 := Lib.hid (And.intro O7 (And.intro ba7 (And.intro bb7 br7)))
      have hpl2 := put_len_le E 200 q (k : Int)
      have HTr7 := Lib.hid (HTr.out.put os (x := (k : Int)) (by unfold I64; omega) 200)
      clear c0 c1' c2 HC T6 T7 P6 P7 O7 ba7 bb7 br7 o6 o7 hSg K1 HT HP
      go_wp2_with (fail)
      refine hrp.mono ?_
      clear hrp
      rintro e w8 ⟨A4, c4, rfl, P8, o8⟩
      have HT8 := Lib.hid (HT7.out.keep o8)
      have HP8 := Lib.hid P8
      have K8 := Lib.hid (And.intro (K7.out.1.trans o8 (by simp)) (And.intro (o8.blk K7.out.2.1 (by simp)) (And.intro (o8.blk K7.out.2.2.1 (by simp)) (o8.blk K7.out.2.2.2 (by simp)))))
      generalize putL E 200 q (k : Int) = E2 at HT8 HP8 HTr7 hpl2
      clear P8 o8 HT7 HP7 K7 HTr
      go_wp2_with (fail)
      go_roundw
      case rel => exact ⟨k + 1, A2, c2', E2, A4, c4, by go_num, rfl, by omega, by omega, HTr7.out, HT8.out, HP8.out, K8.out.1, K8.out.2.1, K8.out.2.2.1, K8.out.2.2.2⟩
      case measure => simp [intOf]; omega
    · obtain rfl : k = L.length := by omega
      have hn2 : E.length ≤ 200 := by omega
      have HTr := Lib.hid hTr
      have HT := Lib.hid hT
      have K1 := Lib.hid (And.intro hO (And.intro ba (And.intro bb br)))
      have hpt := parts_any (own_row4 rfl hP) rfl (by omega) (fun e he => (hTr.ok e he).1) oS (c := cP)
      obtain ⟨s0, s1, s2, sl⟩ := ba.facts3
      clear hTr hT hO ba bb br HL hP hE hk hlt
      go_wp2_with (fail)
      refine hpt.mono ?_
      clear hpt
      rintro e w6 ⟨B1, B2, B3, d1, d2, d3, rfl, H3, o6⟩
      have T6 := HT.out.keep o6
      have hlw := T6.blk.lt
      have hl2 := pb_le E s
      have hl3 := pc_le E s
      have hs6 := o6.size
      obtain ⟨AW, cW, w7, hrun, W7, o7, -⟩ := run_append_row4 (P := Try.prog) 32 Try.underlying32 ref_info rfl H3.o2 (own_row4 rfl H3.o3) rfl hs6 (by unfold maxLen; omega) (by omega)
      have hno := T6.own_other H3.o2 (by decide) (by decide)
      have hbn : ∀ x ∈ (Value.ownBlock (.slice B2 (pbT E s).length d2)).toList, wr.heap.size ≤ x := fun x hx => (H3.o2.lt x (by simpa using hx)).1
      have hwr := K1.out.1.size
      have hbz : w.heap.size + 1 + 1 < wr.heap.size := K1.out.2.2.2.lt
      have T7 := T6.keeps o7 (fun h => hno g (by simpa using h) (by simp)) (fun p hp h => hno p.block (by simpa using h) (by simp [hp]))
      have K7 := Lib.hid (And.intro ((K1.out.1.trans o6 (by simp)).trans o7 (fun x hx => .inr (by have := hbn x hx; omega))) (And.intro (o7.blk (o6.blk K1.out.2.1 (by simp)) (fun h => by have := hbn _ h; omega)) (And.intro (o7.blk (o6.blk K1.out.2.2.1 (by simp)) (fun h => by have := hbn _ h; omega)) (o7.blk (o6.blk K1.out.2.2.2 (by simp)) (fun h => by have := hbn _ h; omega)))))
      have HT7 := Lib.hid T7
      have HW7 := Lib.hid W7
      clear T7 hno hbn
      obtain ⟨W8, hW8⟩ : ∃ W8, w7.alloc (.cells #[.slice AW ((pbT E s).length + (pcT E s).length) cW] 32) = W8 := ⟨_, rfl⟩
      have o8 : Only [] w7 W8 := by rw [← hW8]; exact (Only.refl _ _).alloc _
      have wb8 : Blk W8 w7.heap.size 32 #[.slice AW ((pbT E s).length + (pcT E s).length) cW] := by rw [← hW8]; exact Blk.new _ _ _
      obtain ⟨s0', s1', s2', sl'⟩ := (o8.blk K7.out.2.1 (by simp)).facts3
      have HT8 := Lib.hid (HT7.out.keep o8)
      have HW8 := Lib.hid (ownsRow_only o8 HW7.out (fun _ _ => by simp))
      have K8 := Lib.hid (And.intro (K7.out.1.trans o8 (by simp)) (And.intro (o8.blk K7.out.2.1 (by simp)) (And.intro (o8.blk K7.out.2.2.1 (by simp)) (o8.blk K7.out.2.2.2 (by simp)))))
      have HWB := Lib.hid wb8
      have K7sz := K7.out.1.size
      have K7b := K7.out.2.2.2.lt
      have hs8 := o8.size
      have hwb8 := wb8.lt
      clear HT7 HW7 K7 o8 wb8 W7 o7
      go_wp2_with (at_builtin; refine wpList_append_run hrun rfl _ _ rfl rfl rfl rfl ?_)
      have hmz : w7.heap.size < W8.heap.size := hwb8
      cases rs : stR s with
      | true =>
        refine (refstr oS rs _).mono ?_
        rintro e wx ⟨rfl, o9⟩
        have hM := fromT_parts HTr.out oS rs
        have hown := ownsRow_only o9 HW8.out (fun _ _ => by simp)
        have hml : (pbT E s ++ pcT E s).length = (pbT E s).length + (pcT E s).length := by simp
        have hsx := o9.size
        have HTx := Lib.hid (HT8.out.keep o9)
        have SBx := Lib.hid (o9.blk K8.out.2.1 (by simp))
        obtain ⟨N, hN⟩ : ∃ N, wx.heap.size = N := ⟨_, rfl⟩
        have HG := Lib.hid (show GK w N (w.heap.size + 1 + 1) (w.heap.size + 1) w7.heap.size z AW ((pbT E s).length + (pcT E s).length) cW (pbT E s ++ pcT E s) wx from
          ⟨K8.out.1.trans o9 (by simp), o9.blk K8.out.2.2.2 (by simp), o9.blk K8.out.2.2.1 (by simp), o9.blk HWB.out (by simp), own_row4 hml.symm hown, fun p hp => by have := (own_lt' hown p hp).1; omega, by omega, by omega, by omega, by omega⟩)
        have hm200 : (pbT E s).length + (pcT E s).length ≤ 400 := by omega
        generalize pbT E s ++ pcT E s = M at hM hml HG
        generalize (pbT E s).length + (pcT E s).length = mW at hml HG hm200 ⊢
        clear hown o9 HT8 HW8 K8 HWB hrun
        have HNX := Lib.hid hN
        clear hN
        obtain ⟨y0, y1, y2, yl⟩ := (SBx.out.alloc (.cells #[.int .i64 0] 3)).facts3
        go_wp2_with (fail)
        have HG1 := Lib.hid (HG.out.step ((Only.refl [] wx).alloc (.cells #[.int .i64 0] 3)) (by simp))
        have NB1 := Lib.hid (Blk.new wx 3 #[.int .i64 0])
        have HT1 := Lib.hid (HTx.out.keep ((Only.refl [] wx).alloc (.cells #[.int .i64 0] 3)))
        refine (of_any s _).mono ?_
        rintro e w12 ⟨rfl, o12⟩
        have HG2 := Lib.hid (HG1.out.step o12 (by simp))
        have NB2 := Lib.hid (o12.blk NB1.out (by simp))
        have HT2 := Lib.hid (HT1.out.keep o12)
        have hs12 := o12.size
        simp at hs12
        clear HG1 NB1 HT1 HG HTx SBx o12
        go_wp2_with (fail)
        refine (trkfrom_any g s _).mono ?_
        rintro e w13 ⟨rfl, rfl⟩
        obtain ⟨w14, hw14⟩ : ∃ w14, (w12.alloc (.cells #[.pointer (some ⟨g, 0, none⟩)] 28)).alloc (.cells #[.int .i64 s.1.1, .int .i64 s.1.2, .int .i64 s.2] 34) = w14 := ⟨_, rfl⟩
        have tb : Blk w14 w12.heap.size 28 #[.pointer (some ⟨g, 0, none⟩)] := by rw [← hw14]; exact (Blk.new w12 28 _).alloc _
        have sb : Blk w14 (w12.heap.size + 1) 34 #[.int .i64 s.1.1, .int .i64 s.1.2, .int .i64 s.2] := by rw [← hw14]; have h := Blk.new (w12.alloc (.cells #[.pointer (some ⟨g, 0, none⟩)] 28)) 34 #[.int .i64 s.1.1, .int .i64 s.1.2, .int .i64 s.2]; simpa using h
        have o14 : Only [] w12 w14 := by rw [← hw14]; exact ((Only.refl _ _).alloc _).alloc _
        have G14 := HG2.out.step o14 (by simp)
        have NB14 := o14.blk NB2.out (by simp)
        have T14 := HT2.out.keep o14
        have hwl : w.heap.size ≤ w14.heap.size := G14.o.size
        have hnb := NB14.lt
        clear HG2 NB2 HT2 o14
        go_wp2_with (fail)
        try rw [hw14]
        clear hw14
        have hsq := from_seqs T14 HTr.out (by omega) oS tb sb
        rw [hM] at hsq
        have hNN : ∀ y ∈ [wx.heap.size], N ≤ y := by have := HNX.out; simp; omega
        have HNN := Lib.hid hNN
        have HML := Lib.hid hml
        have HZ := Lib.hid (And.intro hz0 hz1)
        clear hNN hM T14 tb sb hml
        refine' wp_rangeFunc_seqsA (gf := 32) (lb := #[.pointer (some ⟨w12.heap.size, 0, none⟩), .pointer (some ⟨w12.heap.size + 1, 0, none⟩)]) (vs := vals4 M) (prot := []) rfl (enters Try.func32 (by kernel_rfl) rfl)
          hsq (by intro v hv; simp [vals4] at hv; obtain ⟨_, _, _, _, _, rfl⟩ := hv; rfl) [wx.heap.size] (by simp; omega) (by simp)
          (fun j S W => GK w N (w.heap.size + 1 + 1) (w.heap.size + 1) w7.heap.size z AW mW cW M W ∧ Blk W wx.heap.size 3 #[.int .i64 (j : Int)] ∧ S = [wx.heap.size] ∧ (j = 0 ∨ (j : Int) < z))
          (fun c W => c = .exit 2 ∧ GK w N (w.heap.size + 1 + 1) (w.heap.size + 1) w7.heap.size z AW mW cW M W ∧ ∃ j : Nat, Blk W wx.heap.size 3 #[.int .i64 (j : Int)] ∧ j ≤ M.length ∧ 1 ≤ j ∧ z ≤ (j : Int) ∧ (j = 1 ∨ (j : Int) - 1 < z)) ?hI ?hIx ?h0
          _ (fun k V => V.alloc (.cells #[.int .i64 (M.getD k dE).1.1.1, .int .i64 (M.getD k dE).1.1.2, .int .i64 (M.getD k dE).1.2] 34)) (fun k V => (Only.refl [] V).alloc _) ?assign ?body ?done ?stop
        case assign =>
          intro l k v W K hv hK
          obtain ⟨hk, rfl⟩ : k < M.length ∧ #[.agg #[.int .i64 (M.getD k dE).1.1.1, .int .i64 (M.getD k dE).1.1.2, .int .i64 (M.getD k dE).1.2], .int .i64 (M.getD k dE).2] = v := by
            by_cases hk : k < M.length
            · rw [vals4_at hk] at hv
              refine ⟨hk, ?_⟩
              rw [← Option.some.inj hv]
              simp [List.getD, hk]
            · rw [List.getElem?_eq_none (by simp [vals4]; omega)] at hv; cases hv
          clear hk hv
          gi_wp2
          exact hK
        case hI =>
          rintro k S W1 W2 ⟨h1, h2, h3, h4⟩ hk
          exact ⟨h1.keepC hk hwl, hk.blk h2, h3, h4⟩
        case hIx =>
          rintro c W1 W2 ⟨h1, h2, j, h3, h4⟩ hk
          exact ⟨h1, h2.keepC hk hwl, j, hk.blk h3, h4⟩
        case h0 => exact ⟨G14, NB14, rfl, .inl rfl⟩
        case body =>
          rintro l k vv S V W hv ⟨hG, hB, rfl, hkz⟩ hk
          have hkl : k < M.length := by
            rcases Nat.lt_or_ge k M.length with h | h
            · exact h
            · rw [List.getElem?_eq_none (by simp [vals4]; omega)] at hv; cases hv
          clear hv
          have hsb := hk.blk (Blk.new V 34 #[.int .i64 (M.getD k dE).1.1.1, .int .i64 (M.getD k dE).1.1.2, .int .i64 (M.getD k dE).1.2])
          have hgd : (M[k]?.getD dE) = M.getD k dE := rfl
          obtain ⟨b, o, hAW, a0, a1, a2, a3⟩ := hG.row.entry (k := k) (e := M.getD k dE) (by rw [List.getElem?_eq_getElem hkl]; simp [List.getD, hkl])
          have hbl : b < W.heap.size := by
            obtain ⟨f0, _⟩ := flat4_at M k M[k] (List.getElem?_eq_getElem hkl)
            obtain ⟨b', o', hA, hb, _⟩ := hG.row _ _ f0
            rw [hAW] at hA; cases hA; exact hb
          simp only [hgd]
          have hkm : k < mW := by have := HML.out; omega
          have hkd : decide (mW ≤ k) = false := by simp; omega
          have hw64 : IntKind.i64.wrap (k : Int) = (k : Int) := by rw [IntKind.wrap_i64]; omega
          have HSB := Lib.hid hsb
          have HGG := Lib.hid hG
          have HBB := Lib.hid hB
          have HWW := Lib.hid hG.ww
          have HA := Lib.hid (And.intro a0 (And.intro a1 (And.intro a2 a3)))
          have HAW := Lib.hid hAW
          have hE := neq_st34 (M.getD k dE).1
          generalize M.getD k dE = t at HSB HA hE ⊢
          clear hsb hG hB a0 a1 a2 a3 hgd hk hAW
          gi_wp2_with (fail)
          refine wpIn_region_facts 23 [] (fr := ?frq) (tl := ?tlq) (fun i v wv => match i with
            | 0 => v = .int .i64 (k : Int)
            | 1 => v = .slice (some ⟨b, o, none⟩) mW cW
            | 2 => v = .int .i64 (mW : Nat)
            | 3 => v = .bool false
            | 4 => v = .bool false
            | 5 => v = .agg #[.int .i64 t.1.1.1, .int .i64 t.1.1.2, .int .i64 t.1.2]
            | 6 => v = .slice (some ⟨b, o, none⟩) mW cW
            | 7 => v = .int .i64 (k : Int)
            | 8 => v = .pointer (some ⟨b, o + k * 4, none⟩)
            | 9 => v = .pointer (some ⟨b, o + k * 4, none⟩)
            | 10 => v = .agg #[.int .i64 t.1.1.1, .int .i64 t.1.1.2, .int .i64 t.1.2]
            | 11 => v = .agg #[.int .i64 t.1.1.1, .int .i64 t.1.1.2, .int .i64 t.1.2]
            | 12 => v = .bool false
            | 13 => v = .bool false
            | 14 => v = .bool false
            | 15 => v = .int .i64 t.2
            | 16 => v = .slice (some ⟨b, o, none⟩) mW cW
            | 17 => v = .int .i64 (k : Int)
            | 18 => v = .pointer (some ⟨b, o + k * 4, none⟩)
            | 19 => v = .pointer (some ⟨b, o + k * 4 + 3, none⟩)
            | 20 => v = .int .i64 t.2
            | 21 => v = .bool false
            | 22 => v = .bool false
            | _ => True) (by kernel_rfl) (fun a w h => by first | exact h | simpa [Exit.then] using h) (by kernel_rfl) (by kernel_rfl) (by kernel_rfl) (by kernel_rfl) (by decide) ?htlq ?hfrq ?stabq ?stepsq ?doneq
          case htlq => simp only [List.drop_succ_cons, List.drop_zero]; rfl
          case hfrq => intro vals; simp only [putAll, dstAt, Act.put, List.getElem?_toArray, List.getElem?_cons_zero, List.getElem?_cons_succ, Option.bind_some, List.setIfInBounds_toArray, List.set_cons_zero, List.set_cons_succ]; rfl
          case stabq =>
            intro i v wa wb h
            try dsimp only
            split <;> first | exact id | fail
          case stepsq =>
            refine ⟨?_, ?_, ?_, ?_, ?_, ?_, ?_, ?_, ?_, ?_, ?_, ?_, ?_, ?_, ?_, ?_, ?_, ?_, ?_, ?_, ?_, ?_, ?_, trivial⟩
            · intro vals wr hR hp K hK
              dsimp only at hK ⊢
              clear hp
              unfold RunsOp
              have tbn := hR.blk (Blk.drew HBB.out) (by simp)
              obtain ⟨cn, cnl⟩ := tbn.facts1
              clear tbn
              go_simp
              exact hK.out _ _ ⟨_, rfl, Only.refl _ _, rfl⟩
            · intro vals wr hR hp K hK
              dsimp only at hK ⊢
              clear hp
              unfold RunsOp
              have tbw := hR.blk (Blk.drew HWW.out) (by simp)
              rw [HAW.out] at tbw
              obtain ⟨cw, cwl⟩ := tbw.facts1
              clear tbw
              go_simp
              exact hK.out _ _ ⟨_, rfl, Only.refl _ _, rfl⟩
            · intro vals wr hR hp K hK
              dsimp only at hK ⊢
              obtain ⟨p1, -⟩ := hp
              replace p1 := p1 rfl
              dsimp only at p1
              rw [p1] at hK ⊢
              clear p1
              unfold RunsOp
              go_simp
              exact hK.out _ _ ⟨_, rfl, Only.refl _ _, rfl⟩
            · intro vals wr hR hp K hK
              dsimp only at hK ⊢
              obtain ⟨p0, p2, -⟩ := hp
              replace p0 := p0 rfl
              replace p2 := p2 rfl
              dsimp only at p0 p2
              rw [p0, p2] at hK ⊢
              clear p0 p2
              unfold RunsOp
              go_simp
              exact hK.out _ _ ⟨_, rfl, Only.refl _ _, rfl⟩
            · intro vals wr hR hp K hK
              dsimp only at hK ⊢
              obtain ⟨p3, -⟩ := hp
              replace p3 := p3 rfl
              dsimp only at p3
              rw [p3] at hK ⊢
              clear p3
              unfold RunsOp
              go_simp
              exact hK.out _ _ ⟨_, rfl, Only.refl _ _, rfl⟩
            · intro vals wr hR hp K hK
              dsimp only at hK ⊢
              obtain ⟨p4, -⟩ := hp
              replace p4 := p4 rfl
              dsimp only at p4
              rw [p4] at hK ⊢
              clear p4
              unfold RunsOp
              have tbs := hR.blk (Blk.drew HSB.out) (by simp)
              obtain ⟨cs0, cs1, cs2, csl⟩ := tbs.facts3
              clear tbs
              go_simp
              exact hK.out _ _ ⟨_, rfl, Only.refl _ _, rfl⟩
            · intro vals wr hR hp K hK
              dsimp only at hK ⊢
              obtain ⟨p4, -⟩ := hp
              replace p4 := p4 rfl
              dsimp only at p4
              rw [p4] at hK ⊢
              clear p4
              unfold RunsOp
              have tbw := hR.blk (Blk.drew HWW.out) (by simp)
              rw [HAW.out] at tbw
              obtain ⟨cw, cwl⟩ := tbw.facts1
              clear tbw
              go_simp
              exact hK.out _ _ ⟨_, rfl, Only.refl _ _, rfl⟩
            · intro vals wr hR hp K hK
              dsimp only at hK ⊢
              obtain ⟨p4, -⟩ := hp
              replace p4 := p4 rfl
              dsimp only at p4
              rw [p4] at hK ⊢
              clear p4
              unfold RunsOp
              have tbn := hR.blk (Blk.drew HBB.out) (by simp)
              obtain ⟨cn, cnl⟩ := tbn.facts1
              clear tbn
              go_simp
              exact hK.out _ _ ⟨_, rfl, Only.refl _ _, rfl⟩
            · intro vals wr hR hp K hK
              dsimp only at hK ⊢
              obtain ⟨p6, p7, p4, -⟩ := hp
              replace p6 := p6 rfl
              replace p7 := p7 rfl
              replace p4 := p4 rfl
              dsimp only at p6 p7 p4
              rw [p6, p7, p4] at hK ⊢
              clear p6 p7 p4
              unfold RunsOp
              go_simp
              exact hK.out _ _ ⟨_, rfl, Only.refl _ _, rfl⟩
            · intro vals wr hR hp K hK
              dsimp only at hK ⊢
              obtain ⟨p8, p4, -⟩ := hp
              replace p8 := p8 rfl
              replace p4 := p4 rfl
              dsimp only at p8 p4
              rw [p8, p4] at hK ⊢
              clear p8 p4
              unfold RunsOp
              go_simp
              exact hK.out _ _ ⟨_, rfl, Only.refl _ _, rfl⟩
            · intro vals wr hR hp K hK
              dsimp only at hK ⊢
              obtain ⟨p9, p4, -⟩ := hp
              replace p9 := p9 rfl
              replace p4 := p4 rfl
              dsimp only at p9 p4
              rw [p9, p4] at hK ⊢
              clear p9 p4
              unfold RunsOp
              have c0 := (hR.cell (p := ⟨b, o + k * 4, none⟩) hbl (by simp)).trans HA.out.1
              have c1 := (hR.cell (p := ⟨b, o + k * 4 + 1, none⟩) hbl (by simp)).trans HA.out.2.1
              have c2 := (hR.cell (p := ⟨b, o + k * 4 + 2, none⟩) hbl (by simp)).trans HA.out.2.2.1
              go_simp
              exact hK.out _ _ ⟨_, rfl, Only.refl _ _, rfl⟩
            · intro vals wr hR hp K hK
              dsimp only at hK ⊢
              obtain ⟨p10, p4, -, -⟩ := hp
              replace p10 := p10 rfl
              replace p4 := p4 rfl
              dsimp only at p10 p4
              rw [p10, p4] at hK ⊢
              clear p10 p4
              unfold RunsOp
              go_simp
              refine (of_any t.1 _).mono ?_
              rintro e w2 ⟨rfl, o2⟩
              exact hK.out _ _ ⟨_, rfl, o2, rfl⟩
            · intro vals wr hR hp K hK
              dsimp only at hK ⊢
              obtain ⟨p5, p11, p4, -⟩ := hp
              replace p5 := p5 rfl
              replace p11 := p11 rfl
              replace p4 := p4 rfl
              dsimp only at p5 p11 p4
              obtain p11 := p11
              rw [p5, p11, p4] at hK ⊢
              clear p5 p11 p4
              unfold RunsOp
              go_simp
              exact hK.out _ _ ⟨_, rfl, Only.refl _ _, rfl⟩
            · intro vals wr hR hp K hK
              dsimp only at hK ⊢
              obtain ⟨p4, p12, -⟩ := hp
              replace p4 := p4 rfl
              replace p12 := p12 rfl
              dsimp only at p4 p12
              rw [p4, p12] at hK ⊢
              clear p4 p12
              unfold RunsOp
              go_simp
              exact hK.out _ _ ⟨_, rfl, Only.refl _ _, rfl⟩
            · intro vals wr hR hp K hK
              dsimp only at hK ⊢
              obtain ⟨p13, -, -⟩ := hp
              replace p13 := p13 rfl
              dsimp only at p13
              rw [p13] at hK ⊢
              clear p13
              unfold RunsOp
              go_simp
              exact hK.out _ _ ⟨_, rfl, Only.refl _ _, rfl⟩
            · intro vals wr hR hp K hK
              dsimp only at hK ⊢
              obtain ⟨p14, -⟩ := hp
              replace p14 := p14 rfl
              dsimp only at p14
              rw [p14] at hK ⊢
              clear p14
              unfold RunsOp
              go_simp
              exact hK.out _ _ ⟨_, rfl, Only.refl _ _, rfl⟩
            · intro vals wr hR hp K hK
              dsimp only at hK ⊢
              obtain ⟨p14, -⟩ := hp
              replace p14 := p14 rfl
              dsimp only at p14
              rw [p14] at hK ⊢
              clear p14
              unfold RunsOp
              have tbw := hR.blk (Blk.drew HWW.out) (by simp)
              rw [HAW.out] at tbw
              obtain ⟨cw, cwl⟩ := tbw.facts1
              clear tbw
              go_simp
              exact hK.out _ _ ⟨_, rfl, Only.refl _ _, rfl⟩
            · intro vals wr hR hp K hK
              dsimp only at hK ⊢
              obtain ⟨p14, -⟩ := hp
              replace p14 := p14 rfl
              dsimp only at p14
              rw [p14] at hK ⊢
              clear p14
              unfold RunsOp
              have tbn := hR.blk (Blk.drew HBB.out) (by simp)
              obtain ⟨cn, cnl⟩ := tbn.facts1
              clear tbn
              go_simp
              exact hK.out _ _ ⟨_, rfl, Only.refl _ _, rfl⟩
            · intro vals wr hR hp K hK
              dsimp only at hK ⊢
              obtain ⟨p16, p17, p14, -⟩ := hp
              replace p16 := p16 rfl
              replace p17 := p17 rfl
              replace p14 := p14 rfl
              dsimp only at p16 p17 p14
              rw [p16, p17, p14] at hK ⊢
              clear p16 p17 p14
              unfold RunsOp
              go_simp
              exact hK.out _ _ ⟨_, rfl, Only.refl _ _, rfl⟩
            · intro vals wr hR hp K hK
              dsimp only at hK ⊢
              obtain ⟨p18, p14, -⟩ := hp
              replace p18 := p18 rfl
              replace p14 := p14 rfl
              dsimp only at p18 p14
              rw [p18, p14] at hK ⊢
              clear p18 p14
              unfold RunsOp
              go_simp
              exact hK.out _ _ ⟨_, rfl, Only.refl _ _, rfl⟩
            · intro vals wr hR hp K hK
              dsimp only at hK ⊢
              obtain ⟨p19, p14, -⟩ := hp
              replace p19 := p19 rfl
              replace p14 := p14 rfl
              dsimp only at p19 p14
              rw [p19, p14] at hK ⊢
              clear p19 p14
              unfold RunsOp
              have c3 := (hR.cell (p := ⟨b, o + k * 4 + 3, none⟩) hbl (by simp)).trans HA.out.2.2.2
              go_simp
              exact hK.out _ _ ⟨_, rfl, Only.refl _ _, rfl⟩
            · intro vals wr hR hp K hK
              dsimp only at hK ⊢
              obtain ⟨p15, p20, p14, -⟩ := hp
              replace p15 := p15 rfl
              replace p20 := p20 rfl
              replace p14 := p14 rfl
              dsimp only at p15 p20 p14
              rw [p15, p20, p14] at hK ⊢
              clear p15 p20 p14
              unfold RunsOp
              go_simp
              exact hK.out _ _ ⟨_, rfl, Only.refl _ _, rfl⟩
            · intro vals wr hR hp K hK
              dsimp only at hK ⊢
              obtain ⟨p14, p21, -⟩ := hp
              replace p14 := p14 rfl
              replace p21 := p21 rfl
              dsimp only at p14 p21
              rw [p14, p21] at hK ⊢
              clear p14 p21
              unfold RunsOp
              go_simp
              exact hK.out _ _ ⟨_, rfl, Only.refl _ _, rfl⟩
          case doneq =>
            intro vals wd hR hF
            have f22 : vals 22 = .bool false := hF 22 (by decide)
            rw [f22]
            have B9 := hR.blk (Blk.drew HBB.out) (by simp)
            have G9 := HGG.out.step ((Only.refl [] W).drew.trans hR (by simp)) (by simp)
            obtain ⟨n0, nl⟩ := B9.facts1
            have nfr := B9.frozen 0
            obtain ⟨z0, zl⟩ := G9.zz.facts1
            have HB9 := Lib.hid B9
            have HG9 := Lib.hid G9
            have OW9 := Lib.hid ((Only.refl [] W).drew.trans hR (by simp))
            have hzz := HZ.out
            have hnz : ¬ wx.heap.size = w.heap.size + 1 := by have := HG9.out.h2; omega
            have hnz' : ¬ w.heap.size + 1 = wx.heap.size := fun h => hnz h.symm
            clear hF f22 hR B9 G9 HSB HA hE HGG HBB HWW HAW
            refine wpList_nil ?_
            by_cases hbr : z ≤ (k : Int) + 1
            · have hd : decide (z ≤ (k : Int) + 1) = true := by simpa using hbr
              gi_wp2_with (fail)
              exact ⟨⟨rfl, HG9.out.step (only_setCell wd ⟨wx.heap.size, 0, none⟩ (.int .i64 ((k : Int) + 1))) HNN.out, k + 1, by have h := HB9.out.set_ 0 (.int .i64 ((k : Int) + 1)); simpa using h, by omega, by omega, by omega, by rcases hkz with h | h; left; omega; right; omega⟩,
                (OW9.out.mono (fun _ h => by simp at h)).trans (only_setCell wd ⟨wx.heap.size, 0, none⟩ (.int .i64 ((k : Int) + 1))) (fun _ h => .inl h)⟩
            · have hd : decide (z ≤ (k : Int) + 1) = false := by simpa using hbr
              gi_wp2_with (fail)
              exact ⟨⟨[wx.heap.size], ⟨HG9.out.step (only_setCell wd ⟨wx.heap.size, 0, none⟩ (.int .i64 ((k : Int) + 1))) HNN.out, by have h := HB9.out.set_ 0 (.int .i64 ((k : Int) + 1)); simpa using h, rfl, .inr (by omega)⟩, fun b hb => .inl hb⟩,
                (OW9.out.mono (fun _ h => by simp at h)).trans (only_setCell wd ⟨wx.heap.size, 0, none⟩ (.int .i64 ((k : Int) + 1))) (fun _ h => .inl h)⟩
        case done =>
          rintro D S W hD ⟨hG, hB, rfl, -⟩ hKd
          have e1 : (vals4 M).length = mW := by simp [vals4, HML.out]
          rw [e1] at hB
          obtain ⟨n0, nl⟩ := hB.facts1
          obtain ⟨r0, rl⟩ := hG.ww.facts1
          obtain ⟨q0, ql⟩ := hG.r.facts1
          have fr := hG.r.frozen 0
          have HGG := Lib.hid hG
          have HD := Lib.hid hKd
          clear hG hB hKd
          go_wp2_with (fail)
          have hr2 := HGG.out.r.set_ 0 (.bool true)
          have hO2 := HGG.out.o.setCell (p := ⟨w.heap.size + 1 + 1, 0, none⟩) (.inr (by simp; omega)) (.bool true)
          have hK3 := ((only_setCell W ⟨w.heap.size + 1 + 1, 0, none⟩ (.bool true)).block D (Array.getElem?_eq_some_iff.1 HD.out).1 (by have := HGG.out.h1; have := HNX.out; simp; omega)).trans HD.out
          refine ⟨by simp, .inl ⟨_, _, rfl, run_takeDeferred hK3, ?_⟩⟩
          have hk := KeepC.putObj (B := D) (o' := .deferred none) hK3 rfl (Nat.le_refl _)
          obtain ⟨x0, _⟩ := (hk.blk hr2).facts1
          exact ⟨.bool true, by simp [results, Try.results3, go_sem, x0], rfl, hO2.keepC hk (by omega)⟩
        case stop =>
          rintro D c W hD ⟨rfl, hG, j, hB, hj1, hj2, hj3, hj4⟩ hKd
          rw [HML.out] at hj1
          obtain ⟨r0, rl⟩ := hG.ww.facts1
          obtain ⟨q0, ql⟩ := hG.r.facts1
          obtain ⟨z0, zl⟩ := hG.zz.facts1
          have fr := hG.r.frozen 0
          have hzz := HZ.out
          by_cases hjm : j = mW
          · rw [hjm] at hB
            obtain ⟨n0, nl⟩ := hB.facts1
            have HGG := Lib.hid hG
            have HD := Lib.hid hKd
            clear hG hB hKd hjm
            go_wp2_with (fail)
            have hr2 := HGG.out.r.set_ 0 (.bool true)
            have hO2 := HGG.out.o.setCell (p := ⟨w.heap.size + 1 + 1, 0, none⟩) (.inr (by simp; omega)) (.bool true)
            have hK3 := ((only_setCell W ⟨w.heap.size + 1 + 1, 0, none⟩ (.bool true)).block D (Array.getElem?_eq_some_iff.1 HD.out).1 (by have := HGG.out.h1; have := HNX.out; simp; omega)).trans HD.out
            refine ⟨by simp, .inl ⟨_, _, rfl, run_takeDeferred hK3, ?_⟩⟩
            have hk := KeepC.putObj (B := D) (o' := .deferred none) hK3 rfl (Nat.le_refl _)
            obtain ⟨x0, _⟩ := (hk.blk hr2).facts1
            exact ⟨.bool true, by simp [results, Try.results3, go_sem, x0], rfl, hO2.keepC hk (by omega)⟩
          · obtain ⟨n0, nl⟩ := hB.facts1
            have HGG := Lib.hid hG
            have HD := Lib.hid hKd
            have hd1 : ((j : Int) == (mW : Nat)) = false := by simp; omega
            have hd2 : decide ((j : Int) = (mW : Nat)) = false := by simp; omega
            have hd3 : decide ((j : Int) < (mW : Nat)) = true := by simp; omega
            have hmax : max z 1 = (j : Int) := by omega
            have hmax2 : (if z < 1 then 1 else z) = (j : Int) := by split <;> omega
            have hmax3 : (if 1 ≤ z then z else 1) = (j : Int) := by split <;> omega
            clear hG hB hKd
            go_wp2_with (fail)
            have hr2 := HGG.out.r.set_ 0 (.bool true)
            have hO2 := HGG.out.o.setCell (p := ⟨w.heap.size + 1 + 1, 0, none⟩) (.inr (by simp; omega)) (.bool true)
            have hK3 := ((only_setCell W ⟨w.heap.size + 1 + 1, 0, none⟩ (.bool true)).block D (Array.getElem?_eq_some_iff.1 HD.out).1 (by have := HGG.out.h1; have := HNX.out; simp; omega)).trans HD.out
            refine ⟨by simp, .inl ⟨_, _, rfl, run_takeDeferred hK3, ?_⟩⟩
            have hk := KeepC.putObj (B := D) (o' := .deferred none) hK3 rfl (Nat.le_refl _)
            obtain ⟨x0, _⟩ := (hk.blk hr2).facts1
            exact ⟨.bool true, by simp [results, Try.results3, go_sem, x0], rfl, hO2.keepC hk (by omega)⟩

      | false =>
        refine (refstr oS rs _).mono ?_
        rintro e w9 ⟨rfl, o9⟩
        have hM : fromT E s = [] := by unfold fromT; rw [if_neg (by rw [rs]; simp)]
        have wb9 := o9.blk HWB.out (by simp)
        obtain ⟨u0, ul⟩ := wb9.facts1
        have ufr := wb9.frozen 0
        have hsx := o9.size
        obtain ⟨wx, hwx⟩ : ∃ wx, w9.setCell ⟨w7.heap.size, 0, none⟩ (.slice none 0 0) = wx := ⟨_, rfl⟩
        have o10 : Only [w7.heap.size] w9 wx := by rw [← hwx]; exact only_setCell w9 ⟨w7.heap.size, 0, none⟩ (.slice none 0 0)
        have wbx : Blk wx w7.heap.size 32 #[.slice none 0 0] := by rw [← hwx]; exact wb9.set_ 0 _
        have hsy := o10.size
        have T9 := HT8.out.keep o9
        have T10 := T9.keeps o10 (fun h => by have := T9.blk_other wb9 (by decide) (by decide); simp at h; exact this (by rw [← h]; simp)) (fun p hp h => by have := T9.blk_other wb9 (by decide) (by decide); simp at h; exact this (by rw [← h]; simp [hp]))
        have HTx := Lib.hid T10
        have hne1 : w.heap.size ∉ [w7.heap.size] := by have := K7sz; simp; omega
        have SBx := Lib.hid (o10.blk (o9.blk K8.out.2.1 (by simp)) hne1)
        obtain ⟨N, hN⟩ : ∃ N, wx.heap.size = N := ⟨_, rfl⟩
        have HG := Lib.hid (show GK w N (w.heap.size + 1 + 1) (w.heap.size + 1) w7.heap.size z none 0 0 [] wx from
          ⟨(K8.out.1.trans o9 (by simp)).trans o10 (fun x hx => .inr (by simp at hx; omega)), o10.blk (o9.blk K8.out.2.2.2 (by simp)) (by simp; omega), o10.blk (o9.blk K8.out.2.2.1 (by simp)) (by simp; omega), wbx, Row4.nil _ _, (fun p hp => by cases hp), by omega, by omega, by omega, by omega⟩)
        obtain ⟨M, hMM⟩ : ∃ M : List En, [] = M := ⟨_, rfl⟩
        rw [hMM] at hM HG
        have hml : M.length = 0 := by rw [← hMM]; rfl
        have hm200 : 0 ≤ 400 := by omega
        clear o9 o10 HT8 HW8 K8 HWB hrun wb9 T9 T10 wbx hMM hne1
        have HNX := Lib.hid hN
        clear hN
        obtain ⟨y0, y1, y2, yl⟩ := (SBx.out.alloc (.cells #[.int .i64 0] 3)).facts3
        go_wp2_with (fail)
        have HG1 := Lib.hid (HG.out.step ((Only.refl [] wx).alloc (.cells #[.int .i64 0] 3)) (by simp))
        have NB1 := Lib.hid (Blk.new wx 3 #[.int .i64 0])
        have HT1 := Lib.hid (HTx.out.keep ((Only.refl [] wx).alloc (.cells #[.int .i64 0] 3)))
        refine (of_any s _).mono ?_
        rintro e w12 ⟨rfl, o12⟩
        have HG2 := Lib.hid (HG1.out.step o12 (by simp))
        have NB2 := Lib.hid (o12.blk NB1.out (by simp))
        have HT2 := Lib.hid (HT1.out.keep o12)
        have hs12 := o12.size
        simp at hs12
        clear HG1 NB1 HT1 HG HTx SBx o12
        go_wp2_with (fail)
        refine (trkfrom_any g s _).mono ?_
        rintro e w13 ⟨rfl, rfl⟩
        obtain ⟨w14, hw14⟩ : ∃ w14, (w12.alloc (.cells #[.pointer (some ⟨g, 0, none⟩)] 28)).alloc (.cells #[.int .i64 s.1.1, .int .i64 s.1.2, .int .i64 s.2] 34) = w14 := ⟨_, rfl⟩
        have tb : Blk w14 w12.heap.size 28 #[.pointer (some ⟨g, 0, none⟩)] := by rw [← hw14]; exact (Blk.new w12 28 _).alloc _
        have sb : Blk w14 (w12.heap.size + 1) 34 #[.int .i64 s.1.1, .int .i64 s.1.2, .int .i64 s.2] := by rw [← hw14]; have h := Blk.new (w12.alloc (.cells #[.pointer (some ⟨g, 0, none⟩)] 28)) 34 #[.int .i64 s.1.1, .int .i64 s.1.2, .int .i64 s.2]; simpa using h
        have o14 : Only [] w12 w14 := by rw [← hw14]; exact ((Only.refl _ _).alloc _).alloc _
        have G14 := HG2.out.step o14 (by simp)
        have NB14 := o14.blk NB2.out (by simp)
        have T14 := HT2.out.keep o14
        have hwl : w.heap.size ≤ w14.heap.size := G14.o.size
        have hnb := NB14.lt
        clear HG2 NB2 HT2 o14
        go_wp2_with (fail)
        try rw [hw14]
        clear hw14
        have hsq := from_seqs T14 HTr.out (by omega) oS tb sb
        rw [hM] at hsq
        have hNN : ∀ y ∈ [wx.heap.size], N ≤ y := by have := HNX.out; simp; omega
        have HNN := Lib.hid hNN
        have HML := Lib.hid hml
        have HZ := Lib.hid (And.intro hz0 hz1)
        clear hNN hM T14 tb sb hml
        refine' wp_rangeFunc_seqsA (gf := 32) (lb := #[.pointer (some ⟨w12.heap.size, 0, none⟩), .pointer (some ⟨w12.heap.size + 1, 0, none⟩)]) (vs := vals4 M) (prot := []) rfl (enters Try.func32 (by kernel_rfl) rfl)
          hsq (by intro v hv; simp [vals4] at hv; obtain ⟨_, _, _, _, _, rfl⟩ := hv; rfl) [wx.heap.size] (by simp; omega) (by simp)
          (fun j S W => GK w N (w.heap.size + 1 + 1) (w.heap.size + 1) w7.heap.size z none 0 0 M W ∧ Blk W wx.heap.size 3 #[.int .i64 (j : Int)] ∧ S = [wx.heap.size] ∧ (j = 0 ∨ (j : Int) < z))
          (fun c W => c = .exit 2 ∧ GK w N (w.heap.size + 1 + 1) (w.heap.size + 1) w7.heap.size z none 0 0 M W ∧ ∃ j : Nat, Blk W wx.heap.size 3 #[.int .i64 (j : Int)] ∧ j ≤ M.length ∧ 1 ≤ j ∧ z ≤ (j : Int) ∧ (j = 1 ∨ (j : Int) - 1 < z)) ?hI ?hIx ?h0
          (fun _ _ => { tmps := #[], defers := [] }) (fun k V => V.alloc (.cells #[.int .i64 (M.getD k dE).1.1.1, .int .i64 (M.getD k dE).1.1.2, .int .i64 (M.getD k dE).1.2] 34)) (fun k V => (Only.refl [] V).alloc _) ?assign ?body ?done ?stop
        case assign =>
          intro l k v W K hv hK
          rw [List.getElem?_eq_none (by simp [vals4, HML.out])] at hv; cases hv
        case hI =>
          rintro k S W1 W2 ⟨h1, h2, h3, h4⟩ hk
          exact ⟨h1.keepC hk hwl, hk.blk h2, h3, h4⟩
        case hIx =>
          rintro c W1 W2 ⟨h1, h2, j, h3, h4⟩ hk
          exact ⟨h1, h2.keepC hk hwl, j, hk.blk h3, h4⟩
        case h0 => exact ⟨G14, NB14, rfl, .inl rfl⟩
        case body =>
          rintro l k vv S V W hv ⟨hG, hB, rfl, hkz⟩ hk
          have hkl : k < M.length := by
            rcases Nat.lt_or_ge k M.length with h | h
            · exact h
            · rw [List.getElem?_eq_none (by simp [vals4]; omega)] at hv; cases hv
          exact absurd hkl (by have := HML.out; omega)
        case done =>
          rintro D S W hD ⟨hG, hB, rfl, -⟩ hKd
          have e1 : (vals4 M).length = 0 := by simp [vals4, HML.out]
          rw [e1] at hB
          obtain ⟨n0, nl⟩ := hB.facts1
          obtain ⟨r0, rl⟩ := hG.ww.facts1
          obtain ⟨q0, ql⟩ := hG.r.facts1
          have fr := hG.r.frozen 0
          have HGG := Lib.hid hG
          have HD := Lib.hid hKd
          clear hG hB hKd
          go_wp2_with (fail)
          have hr2 := HGG.out.r.set_ 0 (.bool true)
          have hO2 := HGG.out.o.setCell (p := ⟨w.heap.size + 1 + 1, 0, none⟩) (.inr (by simp; omega)) (.bool true)
          have hK3 := ((only_setCell W ⟨w.heap.size + 1 + 1, 0, none⟩ (.bool true)).block D (Array.getElem?_eq_some_iff.1 HD.out).1 (by have := HGG.out.h1; have := HNX.out; simp; omega)).trans HD.out
          refine ⟨by simp, .inl ⟨_, _, rfl, run_takeDeferred hK3, ?_⟩⟩
          have hk := KeepC.putObj (B := D) (o' := .deferred none) hK3 rfl (Nat.le_refl _)
          obtain ⟨x0, _⟩ := (hk.blk hr2).facts1
          exact ⟨.bool true, by simp [results, Try.results3, go_sem, x0], rfl, hO2.keepC hk (by omega)⟩
        case stop =>
          rintro D c W hD ⟨rfl, hG, j, hB, hj1, hj2, hj3, hj4⟩ hKd
          rw [HML.out] at hj1
          omega

theorem trackfrom_any {A : Option Addr} {cap : Nat} {L : List St} {s : St} {z : Int} {w : World} (hL : Stamps w A L) (hlen : L.length ≤ 9223372036854775807) (oS : s.ok) (hz0 : 0 ≤ z) (hz1 : z ≤ 255) :
    Calls Try.prog 3 #[.slice A L.length cap, .agg #[.int .i64 s.1.1, .int .i64 s.1.2, .int .i64 s.2], .int .u8 z] w fun e w' => e = .returned (.bool true) ∧ Only [] w w' := by
  by_cases hl : 200 < L.length
  · exact from_many hl hlen
  · exact from_few hL (by omega) oS hz0 hz1
end Go.Proofs.Ytcggeogpanackaa
