/- expr: how much room is left. -/
import Derived.Test.YtfnacnlaphpflaaDoorAwake
namespace Go.Proofs.YtfnacnlaphpflaaDoor
open Go.RowKit Go.Kx
set_option maxRecDepth 100000

/-- one step of the round -/
def rmStep (deep : Nat) (r : Int) (f : Nat → Int → Int) : Int := if 0 ≤ r then f (deep - 1) r else r
def Tr.room : Tr → Nat → Int → Int
  | .mk _ _ nm sb args => fun deep room => if deep = 0 ∨ room < 1 ∨ 20 < args.length ∨ 100 < nm.size ∨ 100 < sb.size then -1 else (args.map Tr.room).foldl (rmStep deep) (room - 1)
theorem room_mk (op n : Int) (nm sb : ByteArray) (A : Option Addr) (cap : Nat) (args : List Ex) (deep : Nat) (room : Int) :
    (Ex.mk op n nm sb A cap args).tr.room deep room = if deep = 0 ∨ room < 1 ∨ 20 < args.length ∨ 100 < nm.size ∨ 100 < sb.size then -1 else (args.map fun e => e.tr.room).foldl (rmStep deep) (room - 1) := by
  rw [Ex.tr, Tr.room, List.length_map, List.map_map]
  rfl
def rmTo (args : List Ex) (deep : Nat) (room : Int) (k : Nat) : Int := ((args.take k).map fun e => e.tr.room).foldl (rmStep deep) (room - 1)
theorem rmTo_zero (args : List Ex) (deep : Nat) (room : Int) : rmTo args deep room 0 = room - 1 := rfl
theorem rmTo_all (args : List Ex) (deep : Nat) (room : Int) : rmTo args deep room args.length = (args.map fun e => e.tr.room).foldl (rmStep deep) (room - 1) := by unfold rmTo; rw [List.take_length]
theorem rmTo_succ {args : List Ex} {deep : Nat} {room : Int} {k : Nat} {e : Ex} (h : args[k]? = some e) : rmTo args deep room (k + 1) = rmStep deep (rmTo args deep room k) e.tr.room := by
  unfold rmTo
  rw [List.take_add_one, h, List.map_append, List.foldl_append]
  rfl
theorem foldl_neg (deep : Nat) : ∀ (l : List (Nat → Int → Int)) (r : Int), r < 0 → l.foldl (rmStep deep) r = r
  | [], _, _ => rfl
  | f :: l, r, h => by
    rw [List.foldl_cons]
    have : rmStep deep r f = r := by unfold rmStep; rw [if_neg (by omega)]
    rw [this]
    exact foldl_neg deep l r h
theorem rmTo_neg {args : List Ex} {deep : Nat} {room : Int} {k : Nat} (h : rmTo args deep room k < 0) : rmTo args deep room args.length = rmTo args deep room k := by
  rw [rmTo_all]
  unfold rmTo at *
  conv => lhs; rw [← List.take_append_drop k args]
  rw [List.map_append, List.foldl_append]
  exact foldl_neg deep _ _ h
theorem room_range : ∀ (t : Tr) (deep : Nat) (room : Int), 0 ≤ room → -1 ≤ t.room deep room ∧ t.room deep room ≤ room := by
  refine Tr.ind (fun t ih => ?_)
  intro deep room h0
  obtain ⟨op, n, nm, sb, args⟩ := t
  rw [Tr.room]
  show -1 ≤ (if _ then _ else _) ∧ (if _ then _ else _) ≤ _
  split
  · omega
  · rename_i hc
    have key : ∀ (l : List Tr), (∀ a ∈ l, a ∈ args) → ∀ r : Int, -1 ≤ r → -1 ≤ (l.map Tr.room).foldl (rmStep deep) r ∧ (l.map Tr.room).foldl (rmStep deep) r ≤ max r (-1) := by
      intro l
      induction l with
      | nil => intro _ r hr; simp; omega
      | cons a l ihl =>
        intro hm r hr
        rw [List.map_cons, List.foldl_cons]
        have ha := ih a (by simpa [Tr.args] using hm a (by simp)) (deep - 1) r
        have h1 : -1 ≤ rmStep deep r a.room ∧ rmStep deep r a.room ≤ max r (-1) := by
          unfold rmStep
          split
          · have := ha (by omega); omega
          · omega
        have h2 := ihl (fun b hb => hm b (by simp [hb])) _ h1.1
        omega
    have := key args (fun _ h => h) (room - 1) (by omega)
    omega
set_option maxHeartbeats 4000000 in
theorem expr_any : ∀ (e : Ex) (w : World), Lies w e → ∀ (deep : Nat) (room : Int), deep ≤ 1000 → 0 ≤ room → room ≤ 1000000 →
    Calls Tryd.prog 11 #[e.val, .int .i64 deep, .int .i64 room] w fun r w' => r = .returned (.int .i64 (e.tr.room deep room)) ∧ Only [] w w' := by
  refine Ex.ind (fun e ih => ?_)
  intro w hL deep room hd hr0 hr1
  obtain ⟨op, n, nm, sb, A, cap, args⟩ := e
  obtain ⟨-, ⟨h2, h3⟩, hlen, hrow, hsub⟩ := hL.inv
  have HRM := Lib.hid (room_mk op n nm sb A cap args deep room)
  have hbx := Blk.new w 24 #[.int .i64 op, .int .i64 n, .string nm, .string sb, .slice A args.length cap]
  have o0 : Only [] w (w.alloc (.cells #[.int .i64 op, .int .i64 n, .string nm, .string sb, .slice A args.length cap] 24)) := (Only.refl _ _).alloc _
  obtain ⟨b0, b1, b2, b3, b4, bl⟩ := hbx.facts5
  have HB := Lib.hid hbx
  have HO := Lib.hid o0
  have HR := Lib.hid hrow
  have HS := Lib.hid hsub
  have HI := Lib.hid ih
  clear hL hrow hsub ih hbx o0
  show Calls Tryd.prog 11 #[.agg #[.int .i64 op, .int .i64 n, .string nm, .string sb, .slice A args.length cap], .int .i64 deep, .int .i64 room] w _
  by_cases hbad : deep = 0 ∨ room < 1 ∨ 20 < args.length ∨ 100 < nm.size ∨ 100 < sb.size
  · have HRB := Lib.hid (HRM.out.trans (if_pos hbad))
    rcases Nat.eq_zero_or_pos deep with rfl | hdp
    · clear hbad
      go_enter Tryd.func11, Tryd.ntmps11
      go_wp2_with (fail)
      go_ret
      exact ⟨by rw [HRB.out]; rfl, HO.out⟩
    · have d1 : ((deep : Int) == 0) = false := by rw [beq_eq_false_iff_ne]; omega
      have d2 : (deep == 0) = false := by simp; omega
      have d3 : decide (deep = 0) = false := by simp; omega
      by_cases c1 : room < 1
      · clear hbad
        have e1 : decide (room < 1) = true := decide_eq_true c1
        go_enter Tryd.func11, Tryd.ntmps11
        go_wp2_with (fail)
        go_ret
        exact ⟨by rw [HRB.out]; rfl, HO.out⟩
      · have e1 : decide (room < 1) = false := decide_eq_false c1
        by_cases c2 : 20 < args.length
        · have e2 : decide (20 < args.length) = true := decide_eq_true c2
          have e2' : decide ((args.length : Int) > 20) = true := decide_eq_true (by omega)
          clear hbad
          go_enter Tryd.func11, Tryd.ntmps11
          go_wp2_with (fail)
          go_ret
          exact ⟨by rw [HRB.out]; rfl, HO.out⟩
        · have e2 : decide (20 < args.length) = false := decide_eq_false c2
          by_cases c3 : 100 < nm.size
          · have e3 : decide (100 < nm.size) = true := decide_eq_true c3
            clear hbad
            go_enter Tryd.func11, Tryd.ntmps11
            go_wp2_with (fail)
            go_ret
            exact ⟨by rw [HRB.out]; rfl, HO.out⟩
          · have e3 : decide (100 < nm.size) = false := decide_eq_false c3
            have c4 : 100 < sb.size := by omega
            have e4 : decide (100 < sb.size) = true := decide_eq_true c4
            clear hbad
            go_enter Tryd.func11, Tryd.ntmps11
            go_wp2_with (fail)
            go_ret
            exact ⟨by rw [HRB.out]; rfl, HO.out⟩
  · have HRB := Lib.hid (HRM.out.trans (if_neg hbad))
    have hdp : 0 < deep := by omega
    have d1 : ((deep : Int) == 0) = false := by rw [beq_eq_false_iff_ne]; omega
    have d2 : (deep == 0) = false := by simp; omega
    have d3 : decide (deep = 0) = false := by simp; omega
    have e1 : decide (room < 1) = false := decide_eq_false (by omega)
    have e2 : decide (20 < args.length) = false := decide_eq_false (by omega)
    have e3 : decide (100 < nm.size) = false := decide_eq_false (by omega)
    have e4 : decide (100 < sb.size) = false := decide_eq_false (by omega)
    have hl20 : args.length ≤ 20 := by omega
    have hr2 : 1 ≤ room := by omega
    have q1 : ((args.length : Nat) : Int) ≤ 20 := by omega
    have q2 : ((nm.size : Nat) : Int) ≤ 100 := by omega
    have q3 : ((sb.size : Nat) : Int) ≤ 100 := by omega
    clear hbad e2 e3 e4
    go_enter Tryd.func11, Tryd.ntmps11
    go_wp2_with (fail)
    generalize w.alloc (.cells #[.int .i64 op, .int .i64 n, .string nm, .string sb, .slice A args.length cap] 24) = w1 at *
    have HL := Lib.hid (And.intro (And.intro hd hr0) (And.intro hr1 hdp))
    have hd1 : (1 : Int) ≤ (deep : Int) := by omega
    have hd2 : (deep : Int) ≤ 1000 := by omega
    clear q2 q3 h2 h3 d1 d2 d3 e1 hl20 hr2 hdp
    go_loopw [2, 7] (fun x i wr => ∃ (k : Nat) (z : Int), i = .int .i64 k ∧ x = .int .i64 z ∧ z = rmTo args deep room k ∧ k ≤ args.length ∧ -1 ≤ z ∧ z ≤ room ∧ Only [] w1 wr) (fun _ i _ => args.length - (intOf i).toNat)
    case atStart => exact ⟨0, _, rfl, rfl, (rmTo_zero args deep room).symm, Nat.zero_le _, by have := HL.out; omega, by omega, Only.refl _ _⟩
    case round =>
      clear b0 b1 b2 b3 b4 bl
      obtain ⟨k, z, rfl, rfl, hz, hk, hz1, hz2, hO⟩ := hrel
      have HOr := Lib.hid hO
      have HZ := Lib.hid hz
      clear hO hz
      obtain ⟨b0, b1, b2, b3, b4, bl⟩ := (HOr.out.blk HB.out (by simp)).facts5
      by_cases hlt : k < args.length
      · by_cases hz0 : 0 ≤ z
        · obtain ⟨e, he⟩ : ∃ e, args[k]? = some e := ⟨_, List.getElem?_eq_getElem hlt⟩
          have hmem : e ∈ args := List.mem_of_getElem? he
          have HSU := Lib.hid (rmTo_succ (deep := deep) (room := room) he)
          have HLe := Lib.hid ((HS.out e hmem).keep (HO.out.trans HOr.out (by simp)))
          have hcall := HI.out e (by simpa [Ex.args] using hmem)
          have hra := ((HR.out k _ he).only (HO.out.trans HOr.out (by simp)) (by simp))
          obtain ⟨xop, xn, xnm, xsb, xA, xcap, xargs⟩ := e
          obtain ⟨b, o, rfl, hb, c0, c1, c2, c3, c4⟩ := hra.cells
          obtain ⟨rm, hrm⟩ : ∃ rm, (Ex.mk xop xn xnm xsb xA xcap xargs).tr.room = rm := ⟨_, rfl⟩
          have hrg := room_range (Ex.mk xop xn xnm xsb xA xcap xargs).tr (deep - 1) z hz0
          rw [hrm] at hcall HSU hrg
          have HCA := Lib.hid (show Calls Tryd.prog 11 #[.agg #[.int .i64 xop, .int .i64 xn, .string xnm, .string xsb, .slice xA xargs.length xcap], .int .i64 ((deep : Int) - 1), .int .i64 z] wr fun r w' => r = .returned (.int .i64 (rm (deep - 1) z)) ∧ Only [] wr w' from by
            have := hcall wr HLe.out (deep - 1) z (by omega) hz0 (by omega)
            rw [show ((deep - 1 : Nat) : Int) = (deep : Int) - 1 by have := HL.out; omega] at this
            exact this)
          obtain ⟨y, hy⟩ : ∃ y, rm (deep - 1) z = y := ⟨_, rfl⟩
          rw [hy] at HCA hrg
          have HY := Lib.hid (show rmTo args deep room (k + 1) = y from by rw [HSU.out, ← HZ.out]; unfold rmStep; rw [if_pos hz0, hy])
          have HRG := Lib.hid hrg
          clear he hmem hcall hra hrm HSU hy hrg
          go_wp2_with (fail)
          refine HCA.out.mono ?_
          rintro r w5 ⟨rfl, o5⟩
          have HO5 := Lib.hid (HOr.out.trans o5 (by simp))
          clear o5 c0 c1 c2 c3 c4 HCA b0 b1 b2 b3 b4 bl
          go_wp2_with (fail)
          go_roundw
          case rel => exact ⟨k + 1, y, by go_num, rfl, HY.out.symm, by omega, HRG.out.1, by have := HRG.out.2; omega, HO5.out⟩
          case measure => simp [intOf]; omega
        · have hz3 : z < 0 := by omega
          go_wp2_with (fail)
          refine bodyPost_ret (results_tmp rfl _ _ _) rfl ?_
          exact ⟨by rw [HRB.out, ← rmTo_all, rmTo_neg (k := k) (by rw [← HZ.out]; exact hz3), ← HZ.out]; rfl, HO.out.trans HOr.out (by simp)⟩
      · obtain rfl : k = args.length := by omega
        go_wp2_with (fail)
        refine bodyPost_ret (results_tmp rfl _ _ _) rfl ?_
        exact ⟨by rw [HRB.out, ← rmTo_all, ← HZ.out]; rfl, HO.out.trans HOr.out (by simp)⟩
end Go.Proofs.YtfnacnlaphpflaaDoor
