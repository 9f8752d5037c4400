/- ExprRight, the document's. -/
import Derived.Test.YtfnacnlaphpflaaDoorRRa
import Derived.Test.YtfnacnlaphpflaaDoorRRb
import Derived.Test.YtfnacnlaphpflaaDoorRRc
import Derived.Test.YtfnacnlaphpflaaDoorRRd
namespace Go.Proofs.YtfnacnlaphpflaaDoor
open Go.RowKit Go.Kx
set_option maxRecDepth 100000

theorem rr_zero (e : Ex) (w : World) : Calls Tryd.prog 22 #[e.val, .int .i64 0] w fun r w' => r = .returned (.bool false) ∧ Only [] w w' := by
  obtain ⟨op, n, nm, sb, A, cap, args⟩ := e
  have o0 : Only [] w (w.alloc (.cells #[.int .i64 op, .int .i64 n, .string nm, .string sb, .slice A args.length cap] 24)) := (Only.refl _ _).alloc _
  show Calls Tryd.prog 22 #[.agg #[.int .i64 op, .int .i64 n, .string nm, .string sb, .slice A args.length cap], .int .i64 0] w _
  go_enter Tryd.func22, Tryd.ntmps22
  go_wp2_with (fail)
  go_ret
  exact ⟨rfl, o0⟩
set_option maxHeartbeats 4000000 in
theorem rrX (op n : Int) (nm sb : ByteArray) (A : Option Addr) (cap : Nat) (args : List Ex) (w : World) (hop : op < 0 ∨ 25 < op) (nest : Nat) (hn1 : 1 ≤ nest) (hn2 : nest ≤ 20) :
    Calls Tryd.prog 22 #[.agg #[.int .i64 op, .int .i64 n, .string nm, .string sb, .slice A args.length cap], .int .i64 nest] w fun r w' => r = .returned (.bool (nodeB op n nm sb args.length && args.all (rrB (nest - 1)))) ∧ Only [] w w' := by
  have he : nodeB op n nm sb args.length = false := by
    unfold nodeB
    repeat rw [if_neg (by omega)]
  rw [he, Bool.false_and]
  have hbx := Blk.new w 24 #[.int .i64 op, .int .i64 n, .string nm, .string sb, .slice A args.length cap]
  have o0 : Only [] w (w.alloc (.cells #[.int .i64 op, .int .i64 n, .string nm, .string sb, .slice A args.length cap] 24)) := (Only.refl _ _).alloc _
  obtain ⟨c0, c1, c2, c3, c4, bl⟩ := hbx.facts5
  have HO := Lib.hid o0
  clear o0 hbx he
  have d0 : ((nest : Int) == 0) = false := by rw [beq_eq_false_iff_ne]; omega
  have d1 : (nest == 0) = false := by simp; omega
  have hni : (1 : Int) ≤ (nest : Int) := by omega
  rcases hop with h | h
  · have e1 : decide (op < 0) = true := decide_eq_true h
    go_enter Tryd.func22, Tryd.ntmps22
    go_wp2_with (fail)
    go_ret
    exact ⟨rfl, HO.out⟩
  · have e1 : decide (op < 0) = false := decide_eq_false (by omega)
    have e2 : decide (25 < op) = true := decide_eq_true h
    go_enter Tryd.func22, Tryd.ntmps22
    go_wp2_with (fail)
    go_ret
    exact ⟨rfl, HO.out⟩
theorem rr_op (op n : Int) (nm sb : ByteArray) (A : Option Addr) (cap : Nat) (args : List Ex) (w : World) (hR : RowL w A args) (h2 : nm.size ≤ 9223372036854775807) (h3 : sb.size ≤ 9223372036854775807) (nest : Nat) (hn1 : 1 ≤ nest) (hn2 : nest ≤ 20) (ih : RRih args nest) :
    Calls Tryd.prog 22 #[.agg #[.int .i64 op, .int .i64 n, .string nm, .string sb, .slice A args.length cap], .int .i64 nest] w fun r w' => r = .returned (.bool (nodeB op n nm sb args.length && args.all (rrB (nest - 1)))) ∧ Only [] w w' := by
  rcases cases26 op with h | h
  · obtain ⟨k, rfl⟩ : ∃ k : Nat, op = k := ⟨op.toNat, by omega⟩
    have hk : k < 26 := by omega
    rcases Nat.lt_or_ge k 13 with h0_26 | h0_26
    · rcases Nat.lt_or_ge k 6 with h0_13 | h0_13
      · rcases Nat.lt_or_ge k 3 with h0_6 | h0_6
        · rcases Nat.lt_or_ge k 1 with h0_3 | h0_3
          · obtain rfl : k = 0 := by omega
            exact rr0 n nm sb A cap args w hR h2 h3 nest hn1 hn2 ih
          · rcases Nat.lt_or_ge k 2 with h1_3 | h1_3
            · obtain rfl : k = 1 := by omega
              exact rr1 n nm sb A cap args w hR h2 h3 nest hn1 hn2 ih
            · obtain rfl : k = 2 := by omega
              exact rr2 n nm sb A cap args w hR h2 h3 nest hn1 hn2 ih
        · rcases Nat.lt_or_ge k 4 with h3_6 | h3_6
          · obtain rfl : k = 3 := by omega
            exact rr3 n nm sb A cap args w hR h2 h3 nest hn1 hn2 ih
          · rcases Nat.lt_or_ge k 5 with h4_6 | h4_6
            · obtain rfl : k = 4 := by omega
              exact rr4 n nm sb A cap args w hR h2 h3 nest hn1 hn2 ih
            · obtain rfl : k = 5 := by omega
              exact rr5 n nm sb A cap args w hR h2 h3 nest hn1 hn2 ih
      · rcases Nat.lt_or_ge k 9 with h6_13 | h6_13
        · rcases Nat.lt_or_ge k 7 with h6_9 | h6_9
          · obtain rfl : k = 6 := by omega
            exact rr6 n nm sb A cap args w hR h2 h3 nest hn1 hn2 ih
          · rcases Nat.lt_or_ge k 8 with h7_9 | h7_9
            · obtain rfl : k = 7 := by omega
              exact rr7 n nm sb A cap args w hR h2 h3 nest hn1 hn2 ih
            · obtain rfl : k = 8 := by omega
              exact rr8 n nm sb A cap args w hR h2 h3 nest hn1 hn2 ih
        · rcases Nat.lt_or_ge k 11 with h9_13 | h9_13
          · rcases Nat.lt_or_ge k 10 with h9_11 | h9_11
            · obtain rfl : k = 9 := by omega
              exact rr9 n nm sb A cap args w hR h2 h3 nest hn1 hn2 ih
            · obtain rfl : k = 10 := by omega
              exact rr10 n nm sb A cap args w hR h2 h3 nest hn1 hn2 ih
          · rcases Nat.lt_or_ge k 12 with h11_13 | h11_13
            · obtain rfl : k = 11 := by omega
              exact rr11 n nm sb A cap args w hR h2 h3 nest hn1 hn2 ih
            · obtain rfl : k = 12 := by omega
              exact rr12 n nm sb A cap args w hR h2 h3 nest hn1 hn2 ih
    · rcases Nat.lt_or_ge k 19 with h13_26 | h13_26
      · rcases Nat.lt_or_ge k 16 with h13_19 | h13_19
        · rcases Nat.lt_or_ge k 14 with h13_16 | h13_16
          · obtain rfl : k = 13 := by omega
            exact rr13 n nm sb A cap args w hR h2 h3 nest hn1 hn2 ih
          · rcases Nat.lt_or_ge k 15 with h14_16 | h14_16
            · obtain rfl : k = 14 := by omega
              exact rr14 n nm sb A cap args w hR h2 h3 nest hn1 hn2 ih
            · obtain rfl : k = 15 := by omega
              exact rr15 n nm sb A cap args w hR h2 h3 nest hn1 hn2 ih
        · rcases Nat.lt_or_ge k 17 with h16_19 | h16_19
          · obtain rfl : k = 16 := by omega
            exact rr16 n nm sb A cap args w hR h2 h3 nest hn1 hn2 ih
          · rcases Nat.lt_or_ge k 18 with h17_19 | h17_19
            · obtain rfl : k = 17 := by omega
              exact rr17 n nm sb A cap args w hR h2 h3 nest hn1 hn2 ih
            · obtain rfl : k = 18 := by omega
              exact rr18 n nm sb A cap args w hR h2 h3 nest hn1 hn2 ih
      · rcases Nat.lt_or_ge k 22 with h19_26 | h19_26
        · rcases Nat.lt_or_ge k 20 with h19_22 | h19_22
          · obtain rfl : k = 19 := by omega
            exact rr19 n nm sb A cap args w hR h2 h3 nest hn1 hn2 ih
          · rcases Nat.lt_or_ge k 21 with h20_22 | h20_22
            · obtain rfl : k = 20 := by omega
              exact rr20 n nm sb A cap args w hR h2 h3 nest hn1 hn2 ih
            · obtain rfl : k = 21 := by omega
              exact rr21 n nm sb A cap args w hR h2 h3 nest hn1 hn2 ih
        · rcases Nat.lt_or_ge k 24 with h22_26 | h22_26
          · rcases Nat.lt_or_ge k 23 with h22_24 | h22_24
            · obtain rfl : k = 22 := by omega
              exact rr22 n nm sb A cap args w hR h2 h3 nest hn1 hn2 ih
            · obtain rfl : k = 23 := by omega
              exact rr23 n nm sb A cap args w hR h2 h3 nest hn1 hn2 ih
          · rcases Nat.lt_or_ge k 25 with h24_26 | h24_26
            · obtain rfl : k = 24 := by omega
              exact rr24 n nm sb A cap args w hR h2 h3 nest hn1 hn2 ih
            · obtain rfl : k = 25 := by omega
              exact rr25 n nm sb A cap args w hR h2 h3 nest hn1 hn2 ih
  · exact rrX op n nm sb A cap args w h nest hn1 hn2
theorem rrB_mk (op n : Int) (nm sb : ByteArray) (A : Option Addr) (cap : Nat) (args : List Ex) (nest : Nat) (h : 1 ≤ nest) : rrB nest (.mk op n nm sb A cap args) = (nodeB op n nm sb args.length && args.all (rrB (nest - 1))) := by
  unfold rrB
  rw [depth_mk, right_mk]
  have e : decide (1 + mx (Ex.ds args) ≤ nest) = args.all fun a => decide (a.tr.depth ≤ nest - 1) := by
    rw [Bool.eq_iff_iff, decide_eq_true_eq, List.all_eq_true]
    constructor
    · intro hm a ha
      have := mx_le (l := Ex.ds args) (a := a.tr.depth) (List.mem_map.2 ⟨a, ha, rfl⟩)
      exact decide_eq_true (by omega)
    · intro hm
      have := mx_bound (l := Ex.ds args) (m := nest - 1) (fun x hx => by
        obtain ⟨a, ha, rfl⟩ := List.mem_map.1 hx
        have := hm a ha
        simpa using this)
      omega
  rw [e]
  have f : (args.all fun a => decide (a.tr.depth ≤ nest - 1) && a.tr.right) = ((args.all fun a => decide (a.tr.depth ≤ nest - 1)) && args.all fun a => a.tr.right) := by
    induction args with
    | nil => rfl
    | cons a l ih => 
      rw [Bool.eq_iff_iff]
      simp only [List.all_cons, Bool.and_eq_true, List.all_eq_true]
      constructor
      · rintro ⟨⟨h1, h2⟩, h3⟩; exact ⟨⟨h1, fun x hx => (h3 x hx).1⟩, h2, fun x hx => (h3 x hx).2⟩
      · rintro ⟨⟨h1, h3⟩, h2, h4⟩; exact ⟨⟨h1, h2⟩, fun x hx => ⟨h3 x hx, h4 x hx⟩⟩
  show _ = (_ && args.all fun a => decide (a.tr.depth ≤ nest - 1) && a.tr.right)
  rw [f]
  cases nodeB op n nm sb args.length <;> simp
theorem rr_any : ∀ (e : Ex) (w : World), Lies w e → ∀ nest : Nat, nest ≤ 20 → Calls Tryd.prog 22 #[e.val, .int .i64 nest] w fun r w' => r = .returned (.bool (rrB nest e)) ∧ Only [] w w' := by
  refine Ex.ind (fun e ih => ?_)
  intro w hL nest hn
  rcases Nat.eq_zero_or_pos nest with rfl | h0
  · have : rrB 0 e = false := by
      unfold rrB
      have := depth_pos e.tr
      rw [decide_eq_false (by omega)]; rfl
    rw [this]
    exact rr_zero e w
  · obtain ⟨op, n, nm, sb, A, cap, args⟩ := e
    obtain ⟨-, ⟨h2, h3⟩, -⟩ := hL.inv
    rw [rrB_mk _ _ _ _ _ _ _ _ h0]
    refine rr_op op n nm sb A cap args w hL.rowL h2 h3 nest h0 hn (fun a ha w' hLa => ?_)
    have := ih a (by simpa [Ex.args] using ha) w' hLa (nest - 1) (by omega)
    rw [show ((nest - 1 : Nat) : Int) = (nest : Int) - 1 by omega] at this
    exact this
theorem rr_ok {e : Ex} {w : World} (hL : Lies w e) : Calls Tryd.prog 22 #[e.val, .int .i64 20] w fun r w' => r = .returned (.bool e.tr.ok) ∧ Only [] w w' := rr_any e w hL 20 (by omega)
end Go.Proofs.YtfnacnlaphpflaaDoor
