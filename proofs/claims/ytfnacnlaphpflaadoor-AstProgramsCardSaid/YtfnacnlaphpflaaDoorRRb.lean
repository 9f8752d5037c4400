/- ExprRight, the document's. -/
import Derived.Test.YtfnacnlaphpflaaDoorRR0
namespace Go.Proofs.YtfnacnlaphpflaaDoor
open Go.RowKit Go.Kx
set_option maxRecDepth 100000

set_option maxHeartbeats 4000000 in
theorem rr7 (n : Int) (nm sb : ByteArray) (A : Option Addr) (cap : Nat) (args : List Ex) (w : World) (hR : RowL w A args) (h2 : nm.size ≤ 9223372036854775807) (_ : sb.size ≤ 9223372036854775807) (nest : Nat) (hn1 : 1 ≤ nest) (hn2 : nest ≤ 20) (ih : RRih args nest) :
    Calls Tryd.prog 22 #[.agg #[.int .i64 7, .int .i64 n, .string nm, .string sb, .slice A args.length cap], .int .i64 nest] w fun r w' => r = .returned (.bool (nodeB 7 n nm sb args.length && args.all (rrB (nest - 1)))) ∧ Only [] w w' := by
  have hbx := Blk.new w 24 #[.int .i64 7, .int .i64 n, .string nm, .string sb, .slice A args.length cap]
  have o0 : Only [] w (w.alloc (.cells #[.int .i64 7, .int .i64 n, .string nm, .string sb, .slice A args.length cap] 24)) := (Only.refl _ _).alloc _
  obtain ⟨c0, c1, c2, c3, c4, bl⟩ := hbx.facts5
  have hlen := hR.len
  have HO := Lib.hid o0
  have HB := Lib.hid hbx
  have HI := Lib.hid ih
  have HR := Lib.hid hR
  have hni : (1 : Int) ≤ (nest : Int) := by omega
  have hni2 : (nest : Int) ≤ 20 := by omega
  have d0 : ((nest : Int) == 0) = false := by rw [beq_eq_false_iff_ne]; omega
  have d1 : (nest == 0) = false := by simp; omega
  have he : nodeB 7 n nm sb args.length = (fB n nm sb args.length false true false 0 0 && nmB nm) := by simp [nodeB]
  have HE := Lib.hid he
  clear o0 hbx ih hR he
  have hq0 := fun W => refname_any (s := nm) (w := W) h2
  obtain ⟨q0, hqq0⟩ : ∃ q, nmB nm = q := ⟨_, rfl⟩
  rw [hqq0] at hq0 HE
  have HQ0 := Lib.hid hq0
  clear hq0 hqq0
  cases q0
  all_goals
    go_enter Tryd.func22, Tryd.ntmps22
    go_wp2_with (fail)
    generalize hW1 : w.alloc (.cells #[.int .i64 7, .int .i64 n, .string nm, .string sb, .slice A args.length cap] 24) = w1 at *
    obtain ⟨eb, heb⟩ : ∃ eb, w.heap.size = eb := ⟨_, rfl⟩
    rw [heb] at HB c0 c1 c2 c3 c4 bl ⊢
    clear hW1 heb
    go_quiet (fail)
    go_wp2_with (fail)
    refine (HQ0.out _).mono ?_
    rintro r v0 ⟨rfl, p0⟩
    have HO0x := Lib.hid (Only.trans (HO.out.drewN _) p0 (by simp))
    have HB0x := Lib.hid (p0.blk (HB.out.drewN _) (by simp))
    clear p0 c0 c1 c2 c3 c4 bl
    obtain ⟨c0, c1, c2, c3, c4, bl⟩ := HB0x.out.facts5
    go_wp2_with (fail)
  all_goals first
    | (go_ret; refine ⟨?_, HO0x.out⟩; (try subst_vars); rw [HE.out]; simp_all [fB, nilB] <;> omega)
    | (go_ret; refine ⟨?_, HO0x.out⟩; (try subst_vars); have hl : args.length < 0 ∨ 0 < args.length := (by omega); rw [show nodeB 7 _ nm sb args.length = false from (by rw [HE.out]; rcases hl with hl | hl <;> first | omega | (have e : decide (0 ≤ args.length) = false := decide_eq_false (by omega); simp only [fB, e, Bool.and_false, Bool.false_and]; done) | (have e : decide (args.length ≤ 0) = false := decide_eq_false (by omega); simp only [fB, e, Bool.and_false, Bool.false_and]; done))]; rfl)
    | skip
  all_goals
    try subst_vars
    have HNT := Lib.hid (show nodeB 7 _ nm sb args.length = true from by rw [HE.out]; simp_all [fB, nilB] <;> omega)
    have HOc := Lib.hid (HO0x.out)
    have HBc := Lib.hid (HB0x.out)
    generalize v0 = wc at HOc HBc ⊢
    clear c0 c1 c2 c3 c4 bl
    go_loopw [10] (fun i wr => ∃ k : Nat, i = .int .i64 k ∧ k ≤ args.length ∧ (args.take k).all (rrB (nest - 1)) = true ∧ Only [] wc wr) (fun i _ => args.length - (intOf i).toNat)
    case atStart => exact ⟨0, rfl, Nat.zero_le _, by simp, Only.refl _ _⟩
    case round =>
      obtain ⟨k, rfl, hk, hp, hO⟩ := hrel
      have HOr := Lib.hid hO
      have HP := Lib.hid hp
      clear hO hp
      obtain ⟨b0, b1, b2, b3, b4, bl⟩ := (HOr.out.blk HBc.out (by simp)).facts5
      by_cases hlt : k < args.length
      · exfalso
        omega
      · obtain rfl : k = args.length := by omega
        go_wp2_with (fail)
        go_ret
        exact ⟨by have := HP.out; rw [List.take_length] at this; rw [HNT.out, this]; rfl, HOc.out.trans HOr.out (by simp)⟩
set_option maxHeartbeats 4000000 in
theorem rr8 (n : Int) (nm sb : ByteArray) (A : Option Addr) (cap : Nat) (args : List Ex) (w : World) (hR : RowL w A args) (h2 : nm.size ≤ 9223372036854775807) (_ : sb.size ≤ 9223372036854775807) (nest : Nat) (hn1 : 1 ≤ nest) (hn2 : nest ≤ 20) (ih : RRih args nest) :
    Calls Tryd.prog 22 #[.agg #[.int .i64 8, .int .i64 n, .string nm, .string sb, .slice A args.length cap], .int .i64 nest] w fun r w' => r = .returned (.bool (nodeB 8 n nm sb args.length && args.all (rrB (nest - 1)))) ∧ Only [] w w' := by
  have hbx := Blk.new w 24 #[.int .i64 8, .int .i64 n, .string nm, .string sb, .slice A args.length cap]
  have o0 : Only [] w (w.alloc (.cells #[.int .i64 8, .int .i64 n, .string nm, .string sb, .slice A args.length cap] 24)) := (Only.refl _ _).alloc _
  obtain ⟨c0, c1, c2, c3, c4, bl⟩ := hbx.facts5
  have hlen := hR.len
  have HO := Lib.hid o0
  have HB := Lib.hid hbx
  have HI := Lib.hid ih
  have HR := Lib.hid hR
  have hni : (1 : Int) ≤ (nest : Int) := by omega
  have hni2 : (nest : Int) ≤ 20 := by omega
  have d0 : ((nest : Int) == 0) = false := by rw [beq_eq_false_iff_ne]; omega
  have d1 : (nest == 0) = false := by simp; omega
  have he : nodeB 8 n nm sb args.length = (fB n nm sb args.length false true false 0 0 && nmB nm) := by simp [nodeB]
  have HE := Lib.hid he
  clear o0 hbx ih hR he
  have hq0 := fun W => refname_any (s := nm) (w := W) h2
  obtain ⟨q0, hqq0⟩ : ∃ q, nmB nm = q := ⟨_, rfl⟩
  rw [hqq0] at hq0 HE
  have HQ0 := Lib.hid hq0
  clear hq0 hqq0
  cases q0
  all_goals
    go_enter Tryd.func22, Tryd.ntmps22
    go_wp2_with (fail)
    generalize hW1 : w.alloc (.cells #[.int .i64 8, .int .i64 n, .string nm, .string sb, .slice A args.length cap] 24) = w1 at *
    obtain ⟨eb, heb⟩ : ∃ eb, w.heap.size = eb := ⟨_, rfl⟩
    rw [heb] at HB c0 c1 c2 c3 c4 bl ⊢
    clear hW1 heb
    go_quiet (fail)
    go_wp2_with (fail)
    refine (HQ0.out _).mono ?_
    rintro r v0 ⟨rfl, p0⟩
    have HO0x := Lib.hid (Only.trans (HO.out.drewN _) p0 (by simp))
    have HB0x := Lib.hid (p0.blk (HB.out.drewN _) (by simp))
    clear p0 c0 c1 c2 c3 c4 bl
    obtain ⟨c0, c1, c2, c3, c4, bl⟩ := HB0x.out.facts5
    go_wp2_with (fail)
  all_goals first
    | (go_ret; refine ⟨?_, HO0x.out⟩; (try subst_vars); rw [HE.out]; simp_all [fB, nilB] <;> omega)
    | (go_ret; refine ⟨?_, HO0x.out⟩; (try subst_vars); have hl : args.length < 0 ∨ 0 < args.length := (by omega); rw [show nodeB 8 _ nm sb args.length = false from (by rw [HE.out]; rcases hl with hl | hl <;> first | omega | (have e : decide (0 ≤ args.length) = false := decide_eq_false (by omega); simp only [fB, e, Bool.and_false, Bool.false_and]; done) | (have e : decide (args.length ≤ 0) = false := decide_eq_false (by omega); simp only [fB, e, Bool.and_false, Bool.false_and]; done))]; rfl)
    | skip
  all_goals
    try subst_vars
    have HNT := Lib.hid (show nodeB 8 _ nm sb args.length = true from by rw [HE.out]; simp_all [fB, nilB] <;> omega)
    have HOc := Lib.hid (HO0x.out)
    have HBc := Lib.hid (HB0x.out)
    generalize v0 = wc at HOc HBc ⊢
    clear c0 c1 c2 c3 c4 bl
    go_loopw [10] (fun i wr => ∃ k : Nat, i = .int .i64 k ∧ k ≤ args.length ∧ (args.take k).all (rrB (nest - 1)) = true ∧ Only [] wc wr) (fun i _ => args.length - (intOf i).toNat)
    case atStart => exact ⟨0, rfl, Nat.zero_le _, by simp, Only.refl _ _⟩
    case round =>
      obtain ⟨k, rfl, hk, hp, hO⟩ := hrel
      have HOr := Lib.hid hO
      have HP := Lib.hid hp
      clear hO hp
      obtain ⟨b0, b1, b2, b3, b4, bl⟩ := (HOr.out.blk HBc.out (by simp)).facts5
      by_cases hlt : k < args.length
      · exfalso
        omega
      · obtain rfl : k = args.length := by omega
        go_wp2_with (fail)
        go_ret
        exact ⟨by have := HP.out; rw [List.take_length] at this; rw [HNT.out, this]; rfl, HOc.out.trans HOr.out (by simp)⟩
set_option maxHeartbeats 4000000 in
theorem rr9 (n : Int) (nm sb : ByteArray) (A : Option Addr) (cap : Nat) (args : List Ex) (w : World) (hR : RowL w A args) (h2 : nm.size ≤ 9223372036854775807) (_ : sb.size ≤ 9223372036854775807) (nest : Nat) (hn1 : 1 ≤ nest) (hn2 : nest ≤ 20) (ih : RRih args nest) :
    Calls Tryd.prog 22 #[.agg #[.int .i64 9, .int .i64 n, .string nm, .string sb, .slice A args.length cap], .int .i64 nest] w fun r w' => r = .returned (.bool (nodeB 9 n nm sb args.length && args.all (rrB (nest - 1)))) ∧ Only [] w w' := by
  have hbx := Blk.new w 24 #[.int .i64 9, .int .i64 n, .string nm, .string sb, .slice A args.length cap]
  have o0 : Only [] w (w.alloc (.cells #[.int .i64 9, .int .i64 n, .string nm, .string sb, .slice A args.length cap] 24)) := (Only.refl _ _).alloc _
  obtain ⟨c0, c1, c2, c3, c4, bl⟩ := hbx.facts5
  have hlen := hR.len
  have HO := Lib.hid o0
  have HB := Lib.hid hbx
  have HI := Lib.hid ih
  have HR := Lib.hid hR
  have hni : (1 : Int) ≤ (nest : Int) := by omega
  have hni2 : (nest : Int) ≤ 20 := by omega
  have d0 : ((nest : Int) == 0) = false := by rw [beq_eq_false_iff_ne]; omega
  have d1 : (nest == 0) = false := by simp; omega
  have he : nodeB 9 n nm sb args.length = (fB n nm sb args.length false true false 0 0 && nmB nm) := by simp [nodeB]
  have HE := Lib.hid he
  clear o0 hbx ih hR he
  have hq0 := fun W => refname_any (s := nm) (w := W) h2
  obtain ⟨q0, hqq0⟩ : ∃ q, nmB nm = q := ⟨_, rfl⟩
  rw [hqq0] at hq0 HE
  have HQ0 := Lib.hid hq0
  clear hq0 hqq0
  cases q0
  all_goals
    go_enter Tryd.func22, Tryd.ntmps22
    go_wp2_with (fail)
    generalize hW1 : w.alloc (.cells #[.int .i64 9, .int .i64 n, .string nm, .string sb, .slice A args.length cap] 24) = w1 at *
    obtain ⟨eb, heb⟩ : ∃ eb, w.heap.size = eb := ⟨_, rfl⟩
    rw [heb] at HB c0 c1 c2 c3 c4 bl ⊢
    clear hW1 heb
    go_quiet (fail)
    go_wp2_with (fail)
    refine (HQ0.out _).mono ?_
    rintro r v0 ⟨rfl, p0⟩
    have HO0x := Lib.hid (Only.trans (HO.out.drewN _) p0 (by simp))
    have HB0x := Lib.hid (p0.blk (HB.out.drewN _) (by simp))
    clear p0 c0 c1 c2 c3 c4 bl
    obtain ⟨c0, c1, c2, c3, c4, bl⟩ := HB0x.out.facts5
    go_wp2_with (fail)
  all_goals first
    | (go_ret; refine ⟨?_, HO0x.out⟩; (try subst_vars); rw [HE.out]; simp_all [fB, nilB] <;> omega)
    | (go_ret; refine ⟨?_, HO0x.out⟩; (try subst_vars); have hl : args.length < 0 ∨ 0 < args.length := (by omega); rw [show nodeB 9 _ nm sb args.length = false from (by rw [HE.out]; rcases hl with hl | hl <;> first | omega | (have e : decide (0 ≤ args.length) = false := decide_eq_false (by omega); simp only [fB, e, Bool.and_false, Bool.false_and]; done) | (have e : decide (args.length ≤ 0) = false := decide_eq_false (by omega); simp only [fB, e, Bool.and_false, Bool.false_and]; done))]; rfl)
    | skip
  all_goals
    try subst_vars
    have HNT := Lib.hid (show nodeB 9 _ nm sb args.length = true from by rw [HE.out]; simp_all [fB, nilB] <;> omega)
    have HOc := Lib.hid (HO0x.out)
    have HBc := Lib.hid (HB0x.out)
    generalize v0 = wc at HOc HBc ⊢
    clear c0 c1 c2 c3 c4 bl
    go_loopw [10] (fun i wr => ∃ k : Nat, i = .int .i64 k ∧ k ≤ args.length ∧ (args.take k).all (rrB (nest - 1)) = true ∧ Only [] wc wr) (fun i _ => args.length - (intOf i).toNat)
    case atStart => exact ⟨0, rfl, Nat.zero_le _, by simp, Only.refl _ _⟩
    case round =>
      obtain ⟨k, rfl, hk, hp, hO⟩ := hrel
      have HOr := Lib.hid hO
      have HP := Lib.hid hp
      clear hO hp
      obtain ⟨b0, b1, b2, b3, b4, bl⟩ := (HOr.out.blk HBc.out (by simp)).facts5
      by_cases hlt : k < args.length
      · exfalso
        omega
      · obtain rfl : k = args.length := by omega
        go_wp2_with (fail)
        go_ret
        exact ⟨by have := HP.out; rw [List.take_length] at this; rw [HNT.out, this]; rfl, HOc.out.trans HOr.out (by simp)⟩
set_option maxHeartbeats 4000000 in
theorem rr10 (n : Int) (nm sb : ByteArray) (A : Option Addr) (cap : Nat) (args : List Ex) (w : World) (hR : RowL w A args) (h2 : nm.size ≤ 9223372036854775807) (_ : sb.size ≤ 9223372036854775807) (nest : Nat) (hn1 : 1 ≤ nest) (hn2 : nest ≤ 20) (ih : RRih args nest) :
    Calls Tryd.prog 22 #[.agg #[.int .i64 10, .int .i64 n, .string nm, .string sb, .slice A args.length cap], .int .i64 nest] w fun r w' => r = .returned (.bool (nodeB 10 n nm sb args.length && args.all (rrB (nest - 1)))) ∧ Only [] w w' := by
  have hbx := Blk.new w 24 #[.int .i64 10, .int .i64 n, .string nm, .string sb, .slice A args.length cap]
  have o0 : Only [] w (w.alloc (.cells #[.int .i64 10, .int .i64 n, .string nm, .string sb, .slice A args.length cap] 24)) := (Only.refl _ _).alloc _
  obtain ⟨c0, c1, c2, c3, c4, bl⟩ := hbx.facts5
  have hlen := hR.len
  have HO := Lib.hid o0
  have HB := Lib.hid hbx
  have HI := Lib.hid ih
  have HR := Lib.hid hR
  have hni : (1 : Int) ≤ (nest : Int) := by omega
  have hni2 : (nest : Int) ≤ 20 := by omega
  have d0 : ((nest : Int) == 0) = false := by rw [beq_eq_false_iff_ne]; omega
  have d1 : (nest == 0) = false := by simp; omega
  have he : nodeB 10 n nm sb args.length = (fB n nm sb args.length false true false 1 1 && nmB nm) := by simp [nodeB]
  have HE := Lib.hid he
  clear o0 hbx ih hR he
  have hq0 := fun W => refname_any (s := nm) (w := W) h2
  obtain ⟨q0, hqq0⟩ : ∃ q, nmB nm = q := ⟨_, rfl⟩
  rw [hqq0] at hq0 HE
  have HQ0 := Lib.hid hq0
  clear hq0 hqq0
  cases q0
  all_goals
    go_enter Tryd.func22, Tryd.ntmps22
    go_wp2_with (fail)
    generalize hW1 : w.alloc (.cells #[.int .i64 10, .int .i64 n, .string nm, .string sb, .slice A args.length cap] 24) = w1 at *
    obtain ⟨eb, heb⟩ : ∃ eb, w.heap.size = eb := ⟨_, rfl⟩
    rw [heb] at HB c0 c1 c2 c3 c4 bl ⊢
    clear hW1 heb
    go_quiet (fail)
    go_wp2_with (fail)
    refine (HQ0.out _).mono ?_
    rintro r v0 ⟨rfl, p0⟩
    have HO0x := Lib.hid (Only.trans (HO.out.drewN _) p0 (by simp))
    have HB0x := Lib.hid (p0.blk (HB.out.drewN _) (by simp))
    clear p0 c0 c1 c2 c3 c4 bl
    obtain ⟨c0, c1, c2, c3, c4, bl⟩ := HB0x.out.facts5
    go_wp2_with (fail)
  all_goals first
    | (go_ret; refine ⟨?_, HO0x.out⟩; (try subst_vars); rw [HE.out]; simp_all [fB, nilB] <;> omega)
    | (go_ret; refine ⟨?_, HO0x.out⟩; (try subst_vars); have hl : args.length < 1 ∨ 1 < args.length := (by omega); rw [show nodeB 10 _ nm sb args.length = false from (by rw [HE.out]; rcases hl with hl | hl <;> first | omega | (have e : decide (1 ≤ args.length) = false := decide_eq_false (by omega); simp only [fB, e, Bool.and_false, Bool.false_and]; done) | (have e : decide (args.length ≤ 1) = false := decide_eq_false (by omega); simp only [fB, e, Bool.and_false, Bool.false_and]; done))]; rfl)
    | skip
  all_goals
    try subst_vars
    have HNT := Lib.hid (show nodeB 10 _ nm sb args.length = true from by rw [HE.out]; simp_all [fB, nilB] <;> omega)
    have HOc := Lib.hid (HO0x.out)
    have HBc := Lib.hid (HB0x.out)
    generalize v0 = wc at HOc HBc ⊢
    clear c0 c1 c2 c3 c4 bl
    go_loopw [10] (fun i wr => ∃ k : Nat, i = .int .i64 k ∧ k ≤ args.length ∧ (args.take k).all (rrB (nest - 1)) = true ∧ Only [] wc wr) (fun i _ => args.length - (intOf i).toNat)
    case atStart => exact ⟨0, rfl, Nat.zero_le _, by simp, Only.refl _ _⟩
    case round =>
      obtain ⟨k, rfl, hk, hp, hO⟩ := hrel
      have HOr := Lib.hid hO
      have HP := Lib.hid hp
      clear hO hp
      obtain ⟨b0, b1, b2, b3, b4, bl⟩ := (HOr.out.blk HBc.out (by simp)).facts5
      by_cases hlt : k < args.length
      · obtain ⟨e, he⟩ : ∃ e, args[k]? = some e := ⟨_, List.getElem?_eq_getElem hlt⟩
        have hmem : e ∈ args := List.mem_of_getElem? he
        have hcall := HI.out e hmem wr ((HR.out.sub e hmem).keep (HOc.out.trans HOr.out (by simp)))
        have HTK := Lib.hid (show (args.take (k + 1)).all (rrB (nest - 1)) = ((args.take k).all (rrB (nest - 1)) && rrB (nest - 1) e) from by rw [List.take_add_one, he, List.all_append]; simp)
        have HBAD := Lib.hid (show rrB (nest - 1) e = false → args.all (rrB (nest - 1)) = false from fun h => by rw [List.all_eq_false]; exact ⟨e, hmem, by rw [h]; decide⟩)
        obtain ⟨xop, xn, xnm, xsb, xA, xcap, xargs⟩ := e
        obtain ⟨b, o, rfl, hb, d0, d1, d2, d3, d4⟩ := ((HR.out.row k _ he).only (HOc.out.trans HOr.out (by simp)) (by simp)).cells
        obtain ⟨pe, hpe⟩ : ∃ pe, rrB (nest - 1) (.mk xop xn xnm xsb xA xcap xargs) = pe := ⟨_, rfl⟩
        rw [hpe] at hcall HTK HBAD
        have HCA := Lib.hid (show Calls Tryd.prog 22 #[.agg #[.int .i64 xop, .int .i64 xn, .string xnm, .string xsb, .slice xA xargs.length xcap], .int .i64 ((nest : Int) - 1)] wr fun r w'' => r = .returned (.bool pe) ∧ Only [] wr w'' from hcall)
        clear he hmem hcall hpe
        go_wp2_with (fail)
        refine HCA.out.mono ?_
        rintro r w5 ⟨rfl, o5⟩
        have HO5 := Lib.hid (HOr.out.trans o5 (by simp))
        clear o5 b0 b1 b2 b3 b4 bl d0 d1 d2 d3 d4 HCA
        cases pe with
        | true =>
          go_wp2_with (fail)
          go_roundw
          case rel => exact ⟨k + 1, by go_num, by omega, by rw [HTK.out, HP.out]; rfl, HO5.out⟩
          case measure => simp [intOf]; omega
        | false =>
          go_wp2_with (fail)
          go_ret
          exact ⟨by rw [HBAD.out (by first | rfl | trivial), Bool.and_false]; rfl, HOc.out.trans HO5.out (by simp)⟩
      · obtain rfl : k = args.length := by omega
        go_wp2_with (fail)
        go_ret
        exact ⟨by have := HP.out; rw [List.take_length] at this; rw [HNT.out, this]; rfl, HOc.out.trans HOr.out (by simp)⟩
set_option maxHeartbeats 4000000 in
theorem rr11 (n : Int) (nm sb : ByteArray) (A : Option Addr) (cap : Nat) (args : List Ex) (w : World) (hR : RowL w A args) (_ : nm.size ≤ 9223372036854775807) (_ : sb.size ≤ 9223372036854775807) (nest : Nat) (hn1 : 1 ≤ nest) (hn2 : nest ≤ 20) (ih : RRih args nest) :
    Calls Tryd.prog 22 #[.agg #[.int .i64 11, .int .i64 n, .string nm, .string sb, .slice A args.length cap], .int .i64 nest] w fun r w' => r = .returned (.bool (nodeB 11 n nm sb args.length && args.all (rrB (nest - 1)))) ∧ Only [] w w' := by
  have hbx := Blk.new w 24 #[.int .i64 11, .int .i64 n, .string nm, .string sb, .slice A args.length cap]
  have o0 : Only [] w (w.alloc (.cells #[.int .i64 11, .int .i64 n, .string nm, .string sb, .slice A args.length cap] 24)) := (Only.refl _ _).alloc _
  obtain ⟨c0, c1, c2, c3, c4, bl⟩ := hbx.facts5
  have hlen := hR.len
  have HO := Lib.hid o0
  have HB := Lib.hid hbx
  have HI := Lib.hid ih
  have HR := Lib.hid hR
  have hni : (1 : Int) ≤ (nest : Int) := by omega
  have hni2 : (nest : Int) ≤ 20 := by omega
  have d0 : ((nest : Int) == 0) = false := by rw [beq_eq_false_iff_ne]; omega
  have d1 : (nest == 0) = false := by simp; omega
  have he : nodeB 11 n nm sb args.length = (fB n nm sb args.length false false false 0 0) := by simp [nodeB]
  have HE := Lib.hid he
  clear o0 hbx ih hR he
  go_enter Tryd.func22, Tryd.ntmps22
  go_wp2_with (fail)
  generalize hW1 : w.alloc (.cells #[.int .i64 11, .int .i64 n, .string nm, .string sb, .slice A args.length cap] 24) = w1 at *
  obtain ⟨eb, heb⟩ : ∃ eb, w.heap.size = eb := ⟨_, rfl⟩
  rw [heb] at HB c0 c1 c2 c3 c4 bl ⊢
  clear hW1 heb
  go_quiet (fail)
  go_wp2_with (fail)
  all_goals first
    | (go_ret; refine ⟨?_, HO.out.drewN _⟩; (try subst_vars); rw [HE.out]; simp_all [fB, nilB] <;> omega)
    | (go_ret; refine ⟨?_, HO.out.drewN _⟩; (try subst_vars); have hl : args.length < 0 ∨ 0 < args.length := (by omega); rw [show nodeB 11 _ nm sb args.length = false from (by rw [HE.out]; rcases hl with hl | hl <;> first | omega | (have e : decide (0 ≤ args.length) = false := decide_eq_false (by omega); simp only [fB, e, Bool.and_false, Bool.false_and]; done) | (have e : decide (args.length ≤ 0) = false := decide_eq_false (by omega); simp only [fB, e, Bool.and_false]; done))]; rfl)
    | skip
  all_goals
    try subst_vars
    have HNT := Lib.hid (show nodeB 11 _ nm sb args.length = true from by rw [HE.out]; simp_all [fB, nilB] <;> omega)
    have HOc := Lib.hid (HO.out.drewN nq)
    have HBc := Lib.hid (HB.out.drewN nq)
    generalize w1.drewN nq = wc at HOc HBc ⊢
    clear c0 c1 c2 c3 c4 bl
    go_loopw [10] (fun i wr => ∃ k : Nat, i = .int .i64 k ∧ k ≤ args.length ∧ (args.take k).all (rrB (nest - 1)) = true ∧ Only [] wc wr) (fun i _ => args.length - (intOf i).toNat)
    case atStart => exact ⟨0, rfl, Nat.zero_le _, by simp, Only.refl _ _⟩
    case round =>
      obtain ⟨k, rfl, hk, hp, hO⟩ := hrel
      have HOr := Lib.hid hO
      have HP := Lib.hid hp
      clear hO hp
      obtain ⟨b0, b1, b2, b3, b4, bl⟩ := (HOr.out.blk HBc.out (by simp)).facts5
      by_cases hlt : k < args.length
      · exfalso
        omega
      · obtain rfl : k = args.length := by omega
        go_wp2_with (fail)
        go_ret
        exact ⟨by have := HP.out; rw [List.take_length] at this; rw [HNT.out, this]; rfl, HOc.out.trans HOr.out (by simp)⟩
set_option maxHeartbeats 4000000 in
theorem rr12 (n : Int) (nm sb : ByteArray) (A : Option Addr) (cap : Nat) (args : List Ex) (w : World) (hR : RowL w A args) (_ : nm.size ≤ 9223372036854775807) (_ : sb.size ≤ 9223372036854775807) (nest : Nat) (hn1 : 1 ≤ nest) (hn2 : nest ≤ 20) (ih : RRih args nest) :
    Calls Tryd.prog 22 #[.agg #[.int .i64 12, .int .i64 n, .string nm, .string sb, .slice A args.length cap], .int .i64 nest] w fun r w' => r = .returned (.bool (nodeB 12 n nm sb args.length && args.all (rrB (nest - 1)))) ∧ Only [] w w' := by
  have hbx := Blk.new w 24 #[.int .i64 12, .int .i64 n, .string nm, .string sb, .slice A args.length cap]
  have o0 : Only [] w (w.alloc (.cells #[.int .i64 12, .int .i64 n, .string nm, .string sb, .slice A args.length cap] 24)) := (Only.refl _ _).alloc _
  obtain ⟨c0, c1, c2, c3, c4, bl⟩ := hbx.facts5
  have hlen := hR.len
  have HO := Lib.hid o0
  have HB := Lib.hid hbx
  have HI := Lib.hid ih
  have HR := Lib.hid hR
  have hni : (1 : Int) ≤ (nest : Int) := by omega
  have hni2 : (nest : Int) ≤ 20 := by omega
  have d0 : ((nest : Int) == 0) = false := by rw [beq_eq_false_iff_ne]; omega
  have d1 : (nest == 0) = false := by simp; omega
  have he : nodeB 12 n nm sb args.length = (fB n nm sb args.length true false false 1 1 && decide (0 ≤ n) && decide (n < 4)) := by simp [nodeB]
  have HE := Lib.hid he
  clear o0 hbx ih hR he
  go_enter Tryd.func22, Tryd.ntmps22
  go_wp2_with (fail)
  generalize hW1 : w.alloc (.cells #[.int .i64 12, .int .i64 n, .string nm, .string sb, .slice A args.length cap] 24) = w1 at *
  obtain ⟨eb, heb⟩ : ∃ eb, w.heap.size = eb := ⟨_, rfl⟩
  rw [heb] at HB c0 c1 c2 c3 c4 bl ⊢
  clear hW1 heb
  go_quiet (fail)
  go_wp2_with (fail)
  all_goals first
    | (go_ret; refine ⟨?_, HO.out.drewN _⟩; (try subst_vars); rw [HE.out]; simp_all [fB, nilB] <;> omega)
    | (go_ret; refine ⟨?_, HO.out.drewN _⟩; (try subst_vars); have hl : args.length < 1 ∨ 1 < args.length := (by omega); rw [show nodeB 12 _ nm sb args.length = false from (by rw [HE.out]; rcases hl with hl | hl <;> first | omega | (have e : decide (1 ≤ args.length) = false := decide_eq_false (by omega); simp only [fB, e, Bool.and_false, Bool.false_and]; done) | (have e : decide (args.length ≤ 1) = false := decide_eq_false (by omega); simp only [fB, e, Bool.and_false, Bool.false_and]; done))]; rfl)
    | skip
  all_goals
    try subst_vars
    have HNT := Lib.hid (show nodeB 12 _ nm sb args.length = true from by rw [HE.out]; simp_all [fB, nilB] <;> omega)
    have HOc := Lib.hid (HO.out.drewN nq)
    have HBc := Lib.hid (HB.out.drewN nq)
    generalize w1.drewN nq = wc at HOc HBc ⊢
    clear c0 c1 c2 c3 c4 bl
    go_loopw [10] (fun i wr => ∃ k : Nat, i = .int .i64 k ∧ k ≤ args.length ∧ (args.take k).all (rrB (nest - 1)) = true ∧ Only [] wc wr) (fun i _ => args.length - (intOf i).toNat)
    case atStart => exact ⟨0, rfl, Nat.zero_le _, by simp, Only.refl _ _⟩
    case round =>
      obtain ⟨k, rfl, hk, hp, hO⟩ := hrel
      have HOr := Lib.hid hO
      have HP := Lib.hid hp
      clear hO hp
      obtain ⟨b0, b1, b2, b3, b4, bl⟩ := (HOr.out.blk HBc.out (by simp)).facts5
      by_cases hlt : k < args.length
      · obtain ⟨e, he⟩ : ∃ e, args[k]? = some e := ⟨_, List.getElem?_eq_getElem hlt⟩
        have hmem : e ∈ args := List.mem_of_getElem? he
        have hcall := HI.out e hmem wr ((HR.out.sub e hmem).keep (HOc.out.trans HOr.out (by simp)))
        have HTK := Lib.hid (show (args.take (k + 1)).all (rrB (nest - 1)) = ((args.take k).all (rrB (nest - 1)) && rrB (nest - 1) e) from by rw [List.take_add_one, he, List.all_append]; simp)
        have HBAD := Lib.hid (show rrB (nest - 1) e = false → args.all (rrB (nest - 1)) = false from fun h => by rw [List.all_eq_false]; exact ⟨e, hmem, by rw [h]; decide⟩)
        obtain ⟨xop, xn, xnm, xsb, xA, xcap, xargs⟩ := e
        obtain ⟨b, o, rfl, hb, d0, d1, d2, d3, d4⟩ := ((HR.out.row k _ he).only (HOc.out.trans HOr.out (by simp)) (by simp)).cells
        obtain ⟨pe, hpe⟩ : ∃ pe, rrB (nest - 1) (.mk xop xn xnm xsb xA xcap xargs) = pe := ⟨_, rfl⟩
        rw [hpe] at hcall HTK HBAD
        have HCA := Lib.hid (show Calls Tryd.prog 22 #[.agg #[.int .i64 xop, .int .i64 xn, .string xnm, .string xsb, .slice xA xargs.length xcap], .int .i64 ((nest : Int) - 1)] wr fun r w'' => r = .returned (.bool pe) ∧ Only [] wr w'' from hcall)
        clear he hmem hcall hpe
        go_wp2_with (fail)
        refine HCA.out.mono ?_
        rintro r w5 ⟨rfl, o5⟩
        have HO5 := Lib.hid (HOr.out.trans o5 (by simp))
        clear o5 b0 b1 b2 b3 b4 bl d0 d1 d2 d3 d4 HCA
        cases pe with
        | true =>
          go_wp2_with (fail)
          go_roundw
          case rel => exact ⟨k + 1, by go_num, by omega, by rw [HTK.out, HP.out]; rfl, HO5.out⟩
          case measure => simp [intOf]; omega
        | false =>
          go_wp2_with (fail)
          go_ret
          exact ⟨by rw [HBAD.out (by first | rfl | trivial), Bool.and_false]; rfl, HOc.out.trans HO5.out (by simp)⟩
      · obtain rfl : k = args.length := by omega
        go_wp2_with (fail)
        go_ret
        exact ⟨by have := HP.out; rw [List.take_length] at this; rw [HNT.out, this]; rfl, HOc.out.trans HOr.out (by simp)⟩
set_option maxHeartbeats 4000000 in
theorem rr13 (n : Int) (nm sb : ByteArray) (A : Option Addr) (cap : Nat) (args : List Ex) (w : World) (hR : RowL w A args) (_ : nm.size ≤ 9223372036854775807) (_ : sb.size ≤ 9223372036854775807) (nest : Nat) (hn1 : 1 ≤ nest) (hn2 : nest ≤ 20) (ih : RRih args nest) :
    Calls Tryd.prog 22 #[.agg #[.int .i64 13, .int .i64 n, .string nm, .string sb, .slice A args.length cap], .int .i64 nest] w fun r w' => r = .returned (.bool (nodeB 13 n nm sb args.length && args.all (rrB (nest - 1)))) ∧ Only [] w w' := by
  have hbx := Blk.new w 24 #[.int .i64 13, .int .i64 n, .string nm, .string sb, .slice A args.length cap]
  have o0 : Only [] w (w.alloc (.cells #[.int .i64 13, .int .i64 n, .string nm, .string sb, .slice A args.length cap] 24)) := (Only.refl _ _).alloc _
  obtain ⟨c0, c1, c2, c3, c4, bl⟩ := hbx.facts5
  have hlen := hR.len
  have HO := Lib.hid o0
  have HB := Lib.hid hbx
  have HI := Lib.hid ih
  have HR := Lib.hid hR
  have hni : (1 : Int) ≤ (nest : Int) := by omega
  have hni2 : (nest : Int) ≤ 20 := by omega
  have d0 : ((nest : Int) == 0) = false := by rw [beq_eq_false_iff_ne]; omega
  have d1 : (nest == 0) = false := by simp; omega
  have he : nodeB 13 n nm sb args.length = (fB n nm sb args.length false false false 1 1) := by simp [nodeB]
  have HE := Lib.hid he
  clear o0 hbx ih hR he
  go_enter Tryd.func22, Tryd.ntmps22
  go_wp2_with (fail)
  generalize hW1 : w.alloc (.cells #[.int .i64 13, .int .i64 n, .string nm, .string sb, .slice A args.length cap] 24) = w1 at *
  obtain ⟨eb, heb⟩ : ∃ eb, w.heap.size = eb := ⟨_, rfl⟩
  rw [heb] at HB c0 c1 c2 c3 c4 bl ⊢
  clear hW1 heb
  go_quiet (fail)
  go_wp2_with (fail)
  all_goals first
    | (go_ret; refine ⟨?_, HO.out.drewN _⟩; (try subst_vars); rw [HE.out]; simp_all [fB, nilB] <;> omega)
    | (go_ret; refine ⟨?_, HO.out.drewN _⟩; (try subst_vars); have hl : args.length < 1 ∨ 1 < args.length := (by omega); rw [show nodeB 13 _ nm sb args.length = false from (by rw [HE.out]; rcases hl with hl | hl <;> first | omega | (have e : decide (1 ≤ args.length) = false := decide_eq_false (by omega); simp only [fB, e, Bool.and_false, Bool.false_and]; done) | (have e : decide (args.length ≤ 1) = false := decide_eq_false (by omega); simp only [fB, e, Bool.and_false, Bool.false_and]; done))]; rfl)
    | skip
  all_goals
    try subst_vars
    have HNT := Lib.hid (show nodeB 13 _ nm sb args.length = true from by rw [HE.out]; simp_all [fB, nilB] <;> omega)
    have HOc := Lib.hid (HO.out.drewN nq)
    have HBc := Lib.hid (HB.out.drewN nq)
    generalize w1.drewN nq = wc at HOc HBc ⊢
    clear c0 c1 c2 c3 c4 bl
    go_loopw [10] (fun i wr => ∃ k : Nat, i = .int .i64 k ∧ k ≤ args.length ∧ (args.take k).all (rrB (nest - 1)) = true ∧ Only [] wc wr) (fun i _ => args.length - (intOf i).toNat)
    case atStart => exact ⟨0, rfl, Nat.zero_le _, by simp, Only.refl _ _⟩
    case round =>
      obtain ⟨k, rfl, hk, hp, hO⟩ := hrel
      have HOr := Lib.hid hO
      have HP := Lib.hid hp
      clear hO hp
      obtain ⟨b0, b1, b2, b3, b4, bl⟩ := (HOr.out.blk HBc.out (by simp)).facts5
      by_cases hlt : k < args.length
      · obtain ⟨e, he⟩ : ∃ e, args[k]? = some e := ⟨_, List.getElem?_eq_getElem hlt⟩
        have hmem : e ∈ args := List.mem_of_getElem? he
        have hcall := HI.out e hmem wr ((HR.out.sub e hmem).keep (HOc.out.trans HOr.out (by simp)))
        have HTK := Lib.hid (show (args.take (k + 1)).all (rrB (nest - 1)) = ((args.take k).all (rrB (nest - 1)) && rrB (nest - 1) e) from by rw [List.take_add_one, he, List.all_append]; simp)
        have HBAD := Lib.hid (show rrB (nest - 1) e = false → args.all (rrB (nest - 1)) = false from fun h => by rw [List.all_eq_false]; exact ⟨e, hmem, by rw [h]; decide⟩)
        obtain ⟨xop, xn, xnm, xsb, xA, xcap, xargs⟩ := e
        obtain ⟨b, o, rfl, hb, d0, d1, d2, d3, d4⟩ := ((HR.out.row k _ he).only (HOc.out.trans HOr.out (by simp)) (by simp)).cells
        obtain ⟨pe, hpe⟩ : ∃ pe, rrB (nest - 1) (.mk xop xn xnm xsb xA xcap xargs) = pe := ⟨_, rfl⟩
        rw [hpe] at hcall HTK HBAD
        have HCA := Lib.hid (show Calls Tryd.prog 22 #[.agg #[.int .i64 xop, .int .i64 xn, .string xnm, .string xsb, .slice xA xargs.length xcap], .int .i64 ((nest : Int) - 1)] wr fun r w'' => r = .returned (.bool pe) ∧ Only [] wr w'' from hcall)
        clear he hmem hcall hpe
        go_wp2_with (fail)
        refine HCA.out.mono ?_
        rintro r w5 ⟨rfl, o5⟩
        have HO5 := Lib.hid (HOr.out.trans o5 (by simp))
        clear o5 b0 b1 b2 b3 b4 bl d0 d1 d2 d3 d4 HCA
        cases pe with
        | true =>
          go_wp2_with (fail)
          go_roundw
          case rel => exact ⟨k + 1, by go_num, by omega, by rw [HTK.out, HP.out]; rfl, HO5.out⟩
          case measure => simp [intOf]; omega
        | false =>
          go_wp2_with (fail)
          go_ret
          exact ⟨by rw [HBAD.out (by first | rfl | trivial), Bool.and_false]; rfl, HOc.out.trans HO5.out (by simp)⟩
      · obtain rfl : k = args.length := by omega
        go_wp2_with (fail)
        go_ret
        exact ⟨by have := HP.out; rw [List.take_length] at this; rw [HNT.out, this]; rfl, HOc.out.trans HOr.out (by simp)⟩
end Go.Proofs.YtfnacnlaphpflaaDoor
