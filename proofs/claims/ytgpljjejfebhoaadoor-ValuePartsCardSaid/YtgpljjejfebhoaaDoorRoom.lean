/- small, smallType: how much room is left. -/
import Derived.Test.YtgpljjejfebhoaaDoorParts
namespace Go.Proofs.YtgpljjejfebhoaaDoor
open Go.RowKit Go.Kx Go.Val
set_option maxRecDepth 100000
/-- one step of the round -/
def rmStep (deep : Nat) (r : Int) (f : Nat → Int → Int) : Int := if 0 ≤ r then f (deep - 1) r else r
theorem foldl_neg (deep : Nat) : ∀ (l : List (Nat → Int → Int)) (r : Int), r < 0 → l.foldl (rmStep deep) r = r
  | [], _, _ => rfl
  | f :: l, r, h => by
    rw [List.foldl_cons]
    have : rmStep deep r f = r := by unfold rmStep; rw [if_neg (by omega)]
    rw [this]
    exact foldl_neg deep l r h
theorem size_toList (s : ByteArray) : s.toList.length = s.size := by rw [ByteArray.toList_eq]; rfl
end Go.Proofs.YtgpljjejfebhoaaDoor
namespace Go.Val
open Go.Proofs.YtgpljjejfebhoaaDoor
def Vt.room : Vt → Nat → Int → Int
  | .mk k n s l => fun deep room => if deep = 0 ∨ room < 1 ∨ 1000 < s.length ∨ 20 < l.length then -1 else (l.map Vt.room).foldl (rmStep deep) (room - 1)
theorem Vt.room_mk (k n : Int) (s : List UInt8) (l : List Vt) (deep : Nat) (room : Int) : (Vt.mk k n s l).room deep room = if deep = 0 ∨ room < 1 ∨ 1000 < s.length ∨ 20 < l.length then -1 else (l.map Vt.room).foldl (rmStep deep) (room - 1) := by rw [Vt.room]
end Go.Val
namespace Go.Proofs.YtgpljjejfebhoaaDoor
open Go.RowKit Go.Kx Go.Val
theorem room_mkV (k n : Int) (s : ByteArray) (A : Option Addr) (cap : Nat) (l : List Vx) (deep : Nat) (room : Int) :
    (Vx.mk k n s A cap l).tr.room deep room = if deep = 0 ∨ room < 1 ∨ 1000 < s.size ∨ 20 < l.length then -1 else (l.map fun e => e.tr.room).foldl (rmStep deep) (room - 1) := by
  rw [Vx.tr_mk, Vt.room_mk, List.length_map, List.map_map]
  rw [size_toList]
  rfl
def rmToV (l : List Vx) (deep : Nat) (room : Int) (k : Nat) : Int := ((l.take k).map fun e => e.tr.room).foldl (rmStep deep) (room - 1)
theorem rmTo_zeroV (l : List Vx) (deep : Nat) (room : Int) : rmToV l deep room 0 = room - 1 := rfl
theorem rmTo_allV (l : List Vx) (deep : Nat) (room : Int) : rmToV l deep room l.length = (l.map fun e => e.tr.room).foldl (rmStep deep) (room - 1) := by unfold rmToV; rw [List.take_length]
theorem rmTo_succV {l : List Vx} {deep : Nat} {room : Int} {k : Nat} {e : Vx} (h : l[k]? = some e) : rmToV l deep room (k + 1) = rmStep deep (rmToV l deep room k) e.tr.room := by
  unfold rmToV
  rw [List.take_add_one, h, List.map_append, List.foldl_append]
  rfl
theorem rmTo_negV {l : List Vx} {deep : Nat} {room : Int} {k : Nat} (h : rmToV l deep room k < 0) : rmToV l deep room l.length = rmToV l deep room k := by
  rw [rmTo_allV]
  unfold rmToV at *
  conv => lhs; rw [← List.take_append_drop k l]
  rw [List.map_append, List.foldl_append]
  exact foldl_neg deep _ _ h
theorem room_rangeV : ∀ (t : Vt) (deep : Nat) (room : Int), 0 ≤ room → -1 ≤ t.room deep room ∧ t.room deep room ≤ room := by
  refine Vt.ind (fun t ih => ?_)
  intro deep room h0
  obtain ⟨k, n, s, l⟩ := t
  rw [Vt.room_mk]
  split
  · omega
  · rename_i hc
    have key : ∀ (m : List Vt), (∀ a ∈ m, a ∈ l) → ∀ r : Int, -1 ≤ r → -1 ≤ (m.map Vt.room).foldl (rmStep deep) r ∧ (m.map Vt.room).foldl (rmStep deep) r ≤ max r (-1) := by
      intro m
      induction m with
      | nil => intro _ r hr; simp; omega
      | cons a m ihl =>
        intro hm r hr
        rw [List.map_cons, List.foldl_cons]
        have ha := ih a (by simpa [Vt.l] using hm a (by simp)) (deep - 1) r
        have h1 : -1 ≤ rmStep deep r a.room ∧ rmStep deep r a.room ≤ max r (-1) := by
          unfold rmStep
          split
          · have := ha (by omega); omega
          · omega
        have h2 := ihl (fun b hb => hm b (by simp [hb])) _ h1.1
        omega
    have := key l (fun _ h => h) (room - 1) (by omega)
    omega
theorem fold_goodV {deep : Nat} : ∀ (l : List Vt) (r : Int), 0 ≤ (l.map Vt.room).foldl (rmStep deep) r → 0 ≤ r ∧ ∀ a ∈ l, ∃ r', r' ≤ r ∧ 0 ≤ a.room (deep - 1) r'
  | [], r, h => ⟨h, fun a ha => by simp at ha⟩
  | a :: l, r, h => by
    simp only [List.map_cons, List.foldl_cons] at h
    have hr : 0 ≤ r := by
      refine Classical.byContradiction fun hn => ?_
      have e : rmStep deep r a.room = r := by unfold rmStep; rw [if_neg hn]
      rw [e, foldl_neg deep _ r (by omega)] at h
      exact hn h
    have e : rmStep deep r a.room = a.room (deep - 1) r := by unfold rmStep; rw [if_pos hr]
    rw [e] at h
    have ih := fold_goodV l _ h
    have hle := (room_rangeV a (deep - 1) r hr).2
    refine ⟨hr, fun b hb => ?_⟩
    rcases List.mem_cons.1 hb with rfl | hb
    · exact ⟨r, Int.le_refl _, ih.1⟩
    · obtain ⟨r', h1, h2⟩ := ih.2 b hb
      exact ⟨r', by omega, h2⟩
set_option maxHeartbeats 4000000 in
theorem smallV : ∀ (e : Vx) (w : World), LiesV w e → ∀ (deep : Nat) (room : Int), deep ≤ 1000 → 0 ≤ room → room ≤ 1000000 →
    Calls Tryd.prog 37 #[e.val, .int .i64 deep, .int .i64 room] w fun r w' => r = .returned (.int .i64 (e.tr.room deep room)) ∧ Only [] w w' := by
  refine Vx.ind (fun e ih => ?_)
  intro w hL deep room hd hr0 hr1
  obtain ⟨k, n, s, A, cap, l⟩ := e
  have hi := hL.inv
  have hrow := hi.2.2.1
  have hsub := hi.2.2.2
  have hlen9 := hi.2.1
  have hsz := hi.1.2.2
  have HRM := Lib.hid (room_mkV k n s A cap l deep room)
  have hbx := Blk.new w 34 #[.int .i64 k, .int .i64 n, .string s, .slice A l.length cap]
  have o0 : Only [] w (w.alloc (.cells #[.int .i64 k, .int .i64 n, .string s, .slice A l.length cap] 34)) := (Only.refl _ _).alloc _
  obtain ⟨b0, b1, b2, b3, bl⟩ := hbx.facts4
  have HB := Lib.hid hbx
  have HO := Lib.hid o0
  have HR := Lib.hid hrow
  have HS := Lib.hid hsub
  have HI := Lib.hid ih
  clear hL hrow hsub ih hbx o0 hi
  show Calls Tryd.prog 37 #[.agg #[.int .i64 k, .int .i64 n, .string s, .slice A l.length cap], .int .i64 deep, .int .i64 room] w _
  by_cases hbad : deep = 0 ∨ room < 1 ∨ 1000 < s.size ∨ 20 < l.length
  · have HRB := Lib.hid (HRM.out.trans (if_pos hbad))
    rcases Nat.eq_zero_or_pos deep with rfl | hdp
    · clear hbad
      go_enter Tryd.func37, Tryd.ntmps37
      go_wp2_with (fail)
      go_ret
      exact ⟨by rw [HRB.out]; rfl, HO.out⟩
    · have d1 : ((deep : Int) == 0) = false := by rw [beq_eq_false_iff_ne]; omega
      have d2 : (deep == 0) = false := by simp; omega
      have d3 : decide (deep = 0) = false := by simp; omega
      by_cases c1 : room < 1
      · clear hbad
        have e1 : decide (room < 1) = true := decide_eq_true c1
        go_enter Tryd.func37, Tryd.ntmps37
        go_wp2_with (fail)
        go_ret
        exact ⟨by rw [HRB.out]; rfl, HO.out⟩
      · have e1 : decide (room < 1) = false := decide_eq_false c1
        by_cases c3 : 1000 < s.size
        · have e3 : decide (1000 < s.size) = true := decide_eq_true c3
          clear hbad
          go_enter Tryd.func37, Tryd.ntmps37
          go_wp2_with (fail)
          go_ret
          exact ⟨by rw [HRB.out]; rfl, HO.out⟩
        · have e3 : decide (1000 < s.size) = false := decide_eq_false c3
          by_cases c2 : 20 < l.length
          · have e2 : decide (20 < l.length) = true := decide_eq_true c2
            clear hbad
            go_enter Tryd.func37, Tryd.ntmps37
            go_wp2_with (fail)
            go_ret
            exact ⟨by rw [HRB.out]; rfl, HO.out⟩
          · exfalso; omega
  · have HRB := Lib.hid (HRM.out.trans (if_neg hbad))
    have hdp : 0 < deep := by omega
    have d1 : ((deep : Int) == 0) = false := by rw [beq_eq_false_iff_ne]; omega
    have d2 : (deep == 0) = false := by simp; omega
    have d3 : decide (deep = 0) = false := by simp; omega
    have e1 : decide (room < 1) = false := decide_eq_false (by omega)
    have e2 : decide (20 < l.length) = false := decide_eq_false (by omega)
    have e3 : decide (1000 < s.size) = false := decide_eq_false (by omega)
    have q2 : ((s.size : Nat) : Int) ≤ 1000 := by omega
    have hl20 : l.length ≤ 20 := by omega
    have hr2 : 1 ≤ room := by omega
    have q1 : ((l.length : Nat) : Int) ≤ 20 := by omega
    clear hbad e2
    go_enter Tryd.func37, Tryd.ntmps37
    go_wp2_with (fail)
    generalize w.alloc (.cells #[.int .i64 k, .int .i64 n, .string s, .slice A l.length cap] 34) = w1 at *
    have HL := Lib.hid (And.intro (And.intro hd hr0) (And.intro hr1 hdp))
    have hd1 : (1 : Int) ≤ (deep : Int) := by omega
    have hd2 : (deep : Int) ≤ 1000 := by omega
    clear d1 d2 d3 e1 hl20 hr2 hdp hlen9
    go_loopw [2, 7] (fun x i wr => ∃ (k : Nat) (z : Int), i = .int .i64 k ∧ x = .int .i64 z ∧ z = rmToV l deep room k ∧ k ≤ l.length ∧ -1 ≤ z ∧ z ≤ room ∧ Only [] w1 wr) (fun _ i _ => l.length - (intOf i).toNat)
    case atStart => exact ⟨0, _, rfl, rfl, (rmTo_zeroV l deep room).symm, Nat.zero_le _, by have := HL.out; omega, by omega, Only.refl _ _⟩
    case round =>
      clear b0 b1 b2 b3 bl
      obtain ⟨k, z, rfl, rfl, hz, hk, hz1, hz2, hO⟩ := hrel
      have HOr := Lib.hid hO
      have HZ := Lib.hid hz
      clear hO hz
      obtain ⟨b0, b1, b2, b3, bl⟩ := (HOr.out.blk HB.out (by simp)).facts4
      by_cases hlt : k < l.length
      · by_cases hz0 : 0 ≤ z
        · obtain ⟨e, he⟩ : ∃ e, l[k]? = some e := ⟨_, List.getElem?_eq_getElem hlt⟩
          have hmem : e ∈ l := List.mem_of_getElem? he
          have HSU := Lib.hid (rmTo_succV (deep := deep) (room := room) he)
          have HLe := Lib.hid ((HS.out e hmem).keep (HO.out.trans HOr.out (by simp)))
          have hcall := HI.out e (by simpa [Vx.l] using hmem)
          have hra := ((HR.out k _ he).only (HO.out.trans HOr.out (by simp)) (by simp))
          obtain ⟨xk, xn, xs, xA, xcap, xl⟩ := e
          obtain ⟨b, o, rfl, hb, c0, c1, c2, c3⟩ := hra.cells
          obtain ⟨rm, hrm⟩ : ∃ rm, (Vx.mk xk xn xs xA xcap xl).tr.room = rm := ⟨_, rfl⟩
          have hrg := room_rangeV (Vx.mk xk xn xs xA xcap xl).tr (deep - 1) z hz0
          rw [hrm] at hcall HSU hrg
          have HCA := Lib.hid (show Calls Tryd.prog 37 #[.agg #[.int .i64 xk, .int .i64 xn, .string xs, .slice xA xl.length xcap], .int .i64 ((deep : Int) - 1), .int .i64 z] wr fun r w' => r = .returned (.int .i64 (rm (deep - 1) z)) ∧ Only [] wr w' from by
            have := hcall wr HLe.out (deep - 1) z (by omega) hz0 (by omega)
            rw [show ((deep - 1 : Nat) : Int) = (deep : Int) - 1 by have := HL.out; omega] at this
            exact this)
          obtain ⟨y, hy⟩ : ∃ y, rm (deep - 1) z = y := ⟨_, rfl⟩
          rw [hy] at HCA hrg
          have HY := Lib.hid (show rmToV l deep room (k + 1) = y from by rw [HSU.out, ← HZ.out]; unfold rmStep; rw [if_pos hz0, hy])
          have HRG := Lib.hid hrg
          clear he hmem hcall hra hrm HSU hy hrg
          go_wp2_with (fail)
          refine HCA.out.mono ?_
          rintro r w5 ⟨rfl, o5⟩
          have HO5 := Lib.hid (HOr.out.trans o5 (by simp))
          clear o5 c0 c1 c2 c3 HCA b0 b1 b2 b3 bl
          go_wp2_with (fail)
          go_roundw
          case rel => exact ⟨k + 1, y, by go_num, rfl, HY.out.symm, by omega, HRG.out.1, by have := HRG.out.2; omega, HO5.out⟩
          case measure => simp [intOf]; omega
        · have hz3 : z < 0 := by omega
          go_wp2_with (fail)
          refine bodyPost_ret (results_tmp rfl _ _ _) rfl ?_
          exact ⟨by rw [HRB.out, ← rmTo_allV, rmTo_negV (k := k) (by rw [← HZ.out]; exact hz3), ← HZ.out]; rfl, HO.out.trans HOr.out (by simp)⟩
      · obtain rfl : k = l.length := by omega
        go_wp2_with (fail)
        refine bodyPost_ret (results_tmp rfl _ _ _) rfl ?_
        exact ⟨by rw [HRB.out, ← rmTo_allV, ← HZ.out]; rfl, HO.out.trans HOr.out (by simp)⟩
end Go.Proofs.YtgpljjejfebhoaaDoor
namespace Go.Val
open Go.Proofs.YtgpljjejfebhoaaDoor
def Tt.room : Tt → Nat → Int → Int
  | .mk k l => fun deep room => if deep = 0 ∨ room < 1 ∨ 20 < l.length then -1 else (l.map Tt.room).foldl (rmStep deep) (room - 1)
theorem Tt.room_mk (k : Int) (l : List Tt) (deep : Nat) (room : Int) : (Tt.mk k l).room deep room = if deep = 0 ∨ room < 1 ∨ 20 < l.length then -1 else (l.map Tt.room).foldl (rmStep deep) (room - 1) := by rw [Tt.room]
end Go.Val
namespace Go.Proofs.YtgpljjejfebhoaaDoor
open Go.RowKit Go.Kx Go.Val
theorem room_mkT (k : Int) (A : Option Addr) (cap : Nat) (l : List Tx) (deep : Nat) (room : Int) :
    (Tx.mk k A cap l).tr.room deep room = if deep = 0 ∨ room < 1 ∨ 20 < l.length then -1 else (l.map fun e => e.tr.room).foldl (rmStep deep) (room - 1) := by
  rw [Tx.tr_mk, Tt.room_mk, List.length_map, List.map_map]
  rfl
def rmToT (l : List Tx) (deep : Nat) (room : Int) (k : Nat) : Int := ((l.take k).map fun e => e.tr.room).foldl (rmStep deep) (room - 1)
theorem rmTo_zeroT (l : List Tx) (deep : Nat) (room : Int) : rmToT l deep room 0 = room - 1 := rfl
theorem rmTo_allT (l : List Tx) (deep : Nat) (room : Int) : rmToT l deep room l.length = (l.map fun e => e.tr.room).foldl (rmStep deep) (room - 1) := by unfold rmToT; rw [List.take_length]
theorem rmTo_succT {l : List Tx} {deep : Nat} {room : Int} {k : Nat} {e : Tx} (h : l[k]? = some e) : rmToT l deep room (k + 1) = rmStep deep (rmToT l deep room k) e.tr.room := by
  unfold rmToT
  rw [List.take_add_one, h, List.map_append, List.foldl_append]
  rfl
theorem rmTo_negT {l : List Tx} {deep : Nat} {room : Int} {k : Nat} (h : rmToT l deep room k < 0) : rmToT l deep room l.length = rmToT l deep room k := by
  rw [rmTo_allT]
  unfold rmToT at *
  conv => lhs; rw [← List.take_append_drop k l]
  rw [List.map_append, List.foldl_append]
  exact foldl_neg deep _ _ h
theorem room_rangeT : ∀ (t : Tt) (deep : Nat) (room : Int), 0 ≤ room → -1 ≤ t.room deep room ∧ t.room deep room ≤ room := by
  refine Tt.ind (fun t ih => ?_)
  intro deep room h0
  obtain ⟨k, l⟩ := t
  rw [Tt.room_mk]
  split
  · omega
  · rename_i hc
    have key : ∀ (m : List Tt), (∀ a ∈ m, a ∈ l) → ∀ r : Int, -1 ≤ r → -1 ≤ (m.map Tt.room).foldl (rmStep deep) r ∧ (m.map Tt.room).foldl (rmStep deep) r ≤ max r (-1) := by
      intro m
      induction m with
      | nil => intro _ r hr; simp; omega
      | cons a m ihl =>
        intro hm r hr
        rw [List.map_cons, List.foldl_cons]
        have ha := ih a (by simpa [Tt.l] using hm a (by simp)) (deep - 1) r
        have h1 : -1 ≤ rmStep deep r a.room ∧ rmStep deep r a.room ≤ max r (-1) := by
          unfold rmStep
          split
          · have := ha (by omega); omega
          · omega
        have h2 := ihl (fun b hb => hm b (by simp [hb])) _ h1.1
        omega
    have := key l (fun _ h => h) (room - 1) (by omega)
    omega
theorem fold_goodT {deep : Nat} : ∀ (l : List Tt) (r : Int), 0 ≤ (l.map Tt.room).foldl (rmStep deep) r → 0 ≤ r ∧ ∀ a ∈ l, ∃ r', r' ≤ r ∧ 0 ≤ a.room (deep - 1) r'
  | [], r, h => ⟨h, fun a ha => by simp at ha⟩
  | a :: l, r, h => by
    simp only [List.map_cons, List.foldl_cons] at h
    have hr : 0 ≤ r := by
      refine Classical.byContradiction fun hn => ?_
      have e : rmStep deep r a.room = r := by unfold rmStep; rw [if_neg hn]
      rw [e, foldl_neg deep _ r (by omega)] at h
      exact hn h
    have e : rmStep deep r a.room = a.room (deep - 1) r := by unfold rmStep; rw [if_pos hr]
    rw [e] at h
    have ih := fold_goodT l _ h
    have hle := (room_rangeT a (deep - 1) r hr).2
    refine ⟨hr, fun b hb => ?_⟩
    rcases List.mem_cons.1 hb with rfl | hb
    · exact ⟨r, Int.le_refl _, ih.1⟩
    · obtain ⟨r', h1, h2⟩ := ih.2 b hb
      exact ⟨r', by omega, h2⟩
set_option maxHeartbeats 4000000 in
theorem smallT : ∀ (e : Tx) (w : World), LiesT w e → ∀ (deep : Nat) (room : Int), deep ≤ 1000 → 0 ≤ room → room ≤ 1000000 →
    Calls Tryd.prog 12 #[e.val, .int .i64 deep, .int .i64 room] w fun r w' => r = .returned (.int .i64 (e.tr.room deep room)) ∧ Only [] w w' := by
  refine Tx.ind (fun e ih => ?_)
  intro w hL deep room hd hr0 hr1
  obtain ⟨k, A, cap, l⟩ := e
  have hi := hL.inv
  have hrow := hi.2.2.1
  have hsub := hi.2.2.2
  have hlen9 := hi.2.1
  have HRM := Lib.hid (room_mkT k A cap l deep room)
  have hbx := Blk.new w 26 #[.int .i64 k, .slice A l.length cap]
  have o0 : Only [] w (w.alloc (.cells #[.int .i64 k, .slice A l.length cap] 26)) := (Only.refl _ _).alloc _
  obtain ⟨b0, b1, bl⟩ := hbx.facts2
  have HB := Lib.hid hbx
  have HO := Lib.hid o0
  have HR := Lib.hid hrow
  have HS := Lib.hid hsub
  have HI := Lib.hid ih
  clear hL hrow hsub ih hbx o0 hi
  show Calls Tryd.prog 12 #[.agg #[.int .i64 k, .slice A l.length cap], .int .i64 deep, .int .i64 room] w _
  by_cases hbad : deep = 0 ∨ room < 1 ∨ 20 < l.length
  · have HRB := Lib.hid (HRM.out.trans (if_pos hbad))
    rcases Nat.eq_zero_or_pos deep with rfl | hdp
    · clear hbad
      go_enter Tryd.func12, Tryd.ntmps12
      go_wp2_with (fail)
      go_ret
      exact ⟨by rw [HRB.out]; rfl, HO.out⟩
    · have d1 : ((deep : Int) == 0) = false := by rw [beq_eq_false_iff_ne]; omega
      have d2 : (deep == 0) = false := by simp; omega
      have d3 : decide (deep = 0) = false := by simp; omega
      by_cases c1 : room < 1
      · clear hbad
        have e1 : decide (room < 1) = true := decide_eq_true c1
        go_enter Tryd.func12, Tryd.ntmps12
        go_wp2_with (fail)
        go_ret
        exact ⟨by rw [HRB.out]; rfl, HO.out⟩
      · have e1 : decide (room < 1) = false := decide_eq_false c1
        by_cases c2 : 20 < l.length
        · have e2 : decide (20 < l.length) = true := decide_eq_true c2
          clear hbad
          go_enter Tryd.func12, Tryd.ntmps12
          go_wp2_with (fail)
          go_ret
          exact ⟨by rw [HRB.out]; rfl, HO.out⟩
        · exfalso; omega
  · have HRB := Lib.hid (HRM.out.trans (if_neg hbad))
    have hdp : 0 < deep := by omega
    have d1 : ((deep : Int) == 0) = false := by rw [beq_eq_false_iff_ne]; omega
    have d2 : (deep == 0) = false := by simp; omega
    have d3 : decide (deep = 0) = false := by simp; omega
    have e1 : decide (room < 1) = false := decide_eq_false (by omega)
    have e2 : decide (20 < l.length) = false := decide_eq_false (by omega)
    have hl20 : l.length ≤ 20 := by omega
    have hr2 : 1 ≤ room := by omega
    have q1 : ((l.length : Nat) : Int) ≤ 20 := by omega
    clear hbad e2
    go_enter Tryd.func12, Tryd.ntmps12
    go_wp2_with (fail)
    generalize w.alloc (.cells #[.int .i64 k, .slice A l.length cap] 26) = w1 at *
    have HL := Lib.hid (And.intro (And.intro hd hr0) (And.intro hr1 hdp))
    have hd1 : (1 : Int) ≤ (deep : Int) := by omega
    have hd2 : (deep : Int) ≤ 1000 := by omega
    clear d1 d2 d3 e1 hl20 hr2 hdp hlen9
    go_loopw [2, 7] (fun x i wr => ∃ (k : Nat) (z : Int), i = .int .i64 k ∧ x = .int .i64 z ∧ z = rmToT l deep room k ∧ k ≤ l.length ∧ -1 ≤ z ∧ z ≤ room ∧ Only [] w1 wr) (fun _ i _ => l.length - (intOf i).toNat)
    case atStart => exact ⟨0, _, rfl, rfl, (rmTo_zeroT l deep room).symm, Nat.zero_le _, by have := HL.out; omega, by omega, Only.refl _ _⟩
    case round =>
      clear b0 b1 bl
      obtain ⟨k, z, rfl, rfl, hz, hk, hz1, hz2, hO⟩ := hrel
      have HOr := Lib.hid hO
      have HZ := Lib.hid hz
      clear hO hz
      obtain ⟨b0, b1, bl⟩ := (HOr.out.blk HB.out (by simp)).facts2
      by_cases hlt : k < l.length
      · by_cases hz0 : 0 ≤ z
        · obtain ⟨e, he⟩ : ∃ e, l[k]? = some e := ⟨_, List.getElem?_eq_getElem hlt⟩
          have hmem : e ∈ l := List.mem_of_getElem? he
          have HSU := Lib.hid (rmTo_succT (deep := deep) (room := room) he)
          have HLe := Lib.hid ((HS.out e hmem).keep (HO.out.trans HOr.out (by simp)))
          have hcall := HI.out e (by simpa [Tx.l] using hmem)
          have hra := ((HR.out k _ he).only (HO.out.trans HOr.out (by simp)) (by simp))
          obtain ⟨xk, xA, xcap, xl⟩ := e
          obtain ⟨b, o, rfl, hb, c0, c1⟩ := hra.cells
          obtain ⟨rm, hrm⟩ : ∃ rm, (Tx.mk xk xA xcap xl).tr.room = rm := ⟨_, rfl⟩
          have hrg := room_rangeT (Tx.mk xk xA xcap xl).tr (deep - 1) z hz0
          rw [hrm] at hcall HSU hrg
          have HCA := Lib.hid (show Calls Tryd.prog 12 #[.agg #[.int .i64 xk, .slice xA xl.length xcap], .int .i64 ((deep : Int) - 1), .int .i64 z] wr fun r w' => r = .returned (.int .i64 (rm (deep - 1) z)) ∧ Only [] wr w' from by
            have := hcall wr HLe.out (deep - 1) z (by omega) hz0 (by omega)
            rw [show ((deep - 1 : Nat) : Int) = (deep : Int) - 1 by have := HL.out; omega] at this
            exact this)
          obtain ⟨y, hy⟩ : ∃ y, rm (deep - 1) z = y := ⟨_, rfl⟩
          rw [hy] at HCA hrg
          have HY := Lib.hid (show rmToT l deep room (k + 1) = y from by rw [HSU.out, ← HZ.out]; unfold rmStep; rw [if_pos hz0, hy])
          have HRG := Lib.hid hrg
          clear he hmem hcall hra hrm HSU hy hrg
          go_wp2_with (fail)
          refine HCA.out.mono ?_
          rintro r w5 ⟨rfl, o5⟩
          have HO5 := Lib.hid (HOr.out.trans o5 (by simp))
          clear o5 c0 c1 HCA b0 b1 bl
          go_wp2_with (fail)
          go_roundw
          case rel => exact ⟨k + 1, y, by go_num, rfl, HY.out.symm, by omega, HRG.out.1, by have := HRG.out.2; omega, HO5.out⟩
          case measure => simp [intOf]; omega
        · have hz3 : z < 0 := by omega
          go_wp2_with (fail)
          refine bodyPost_ret (results_tmp rfl _ _ _) rfl ?_
          exact ⟨by rw [HRB.out, ← rmTo_allT, rmTo_negT (k := k) (by rw [← HZ.out]; exact hz3), ← HZ.out]; rfl, HO.out.trans HOr.out (by simp)⟩
      · obtain rfl : k = l.length := by omega
        go_wp2_with (fail)
        refine bodyPost_ret (results_tmp rfl _ _ _) rfl ?_
        exact ⟨by rw [HRB.out, ← rmTo_allT, ← HZ.out]; rfl, HO.out.trans HOr.out (by simp)⟩
theorem room_sm : ∀ (e : Vx) (deep : Nat) (room : Int), 0 ≤ e.tr.room deep room → e.sm = true := by
  refine Vx.ind (fun e ih => ?_)
  intro deep room h
  obtain ⟨k, n, s, A, cap, l⟩ := e
  rw [Vx.tr_mk, Vt.room_mk] at h
  split at h
  · omega
  · rename_i hc
    rw [List.length_map] at hc
    obtain ⟨-, hg⟩ := fold_goodV _ _ h
    exact sm_of (by omega) (fun a ha => by
      obtain ⟨r', -, h2⟩ := hg a.tr (List.mem_map.2 ⟨a, ha, rfl⟩)
      exact ih a (by simpa [Vx.l] using ha) _ _ h2)
theorem fold_all {deep : Nat} : ∀ (l : List Vt) (r : Int), (∀ a ∈ l, ∀ r', 0 ≤ a.room (deep - 1) r' → (a.all.length : Int) + a.room (deep - 1) r' = r') → 0 ≤ (l.map Vt.room).foldl (rmStep deep) r → (((l.map Vt.all).flatten.length : Nat) : Int) + (l.map Vt.room).foldl (rmStep deep) r = r
  | [], r, _, h => by simp
  | a :: l, r, ih, h => by
    have hg := fold_goodV (a :: l) r h
    simp only [List.map_cons, List.foldl_cons, List.flatten_cons, List.length_append] at h ⊢
    have e : rmStep deep r a.room = a.room (deep - 1) r := by unfold rmStep; rw [if_pos hg.1]
    rw [e] at h ⊢
    have h1 := (fold_goodV l _ h).1
    have ha := ih a (by simp) r h1
    have hl := fold_all l _ (fun b hb => ih b (by simp [hb])) h
    omega
theorem room_all : ∀ (t : Vt) (deep : Nat) (room : Int), 0 ≤ t.room deep room → (t.all.length : Int) + t.room deep room = room := by
  refine Vt.ind (fun t ih => ?_)
  intro deep room h
  obtain ⟨k, n, s, l⟩ := t
  rw [Vt.room_mk] at h ⊢
  split at h
  · omega
  · rename_i hc
    rw [if_neg hc, Vt.all, List.length_cons]
    have := fold_all l (room - 1) (fun a ha r' h2 => ih a (by simpa [Vt.l] using ha) (deep - 1) r' h2) h
    omega
end Go.Proofs.YtgpljjejfebhoaaDoor
