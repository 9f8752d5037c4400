/- The document's example. -/
import Derived.Test.YtcggeogpanackaaPut
import Derived.Test.YtcggeogpanackaaAt
import Derived.Test.YtcggeogpanackaaBack
import Derived.Test.YtcggeogpanackaaFree
namespace Go.Proofs.Ytcggeogpanackaa
open Go.RowKit Go.Kx
set_option maxRecDepth 20000

def atT (L : List En) (s : St) : Option En := if stR s = true then (if upToT L s = 0 then none else L[upToT L s - 1]?) else none
def atV : Option En → Value
  | none => .tuple #[.agg #[.int .i64 0, .int .i64 0, .int .i64 0], .int .i64 0, .bool false]
  | some l => .tuple #[.agg #[.int .i64 l.1.1.1, .int .i64 l.1.1.2, .int .i64 l.1.2], .int .i64 l.2, .bool true]
theorem at_any {B : Nat} {w : World} {g : Nat} {room : Int} {L : List En} {A : Option Addr} {c : Nat} {s : St} (hT : TB B w g room L A c) (hk : Trk L) (os : s.ok) (hlen : L.length ≤ 1048576) :
    Calls Try.prog 23 #[.pointer (some ⟨g, 0, none⟩), .agg #[.int .i64 s.1.1, .int .i64 s.1.2, .int .i64 s.2]] w fun e w' => e = .returned (atV (atT L s)) ∧ Only [] w w' := by
  unfold atT
  cases hr : stR s with
  | false => rw [if_neg (by simp)]; exact at_wrong os hr
  | true =>
    rw [if_pos rfl]
    by_cases h0 : upToT L s = 0
    · rw [if_pos h0]; exact at_zero hT hk os hr hlen h0
    · rw [if_neg h0]
      have hle := upTo_le L s
      have hlt : upToT L s - 1 < L.length := by omega
      rw [List.getElem?_eq_getElem hlt]
      exact at_some hT hk os hr hlen (m := upToT L s - 1) (by omega) (List.getElem?_eq_getElem hlt) rfl (by omega)
theorem whole_any (k : Int) (w : World) : Calls Try.prog 24 #[.int .i64 k] w fun e w' => e = .returned (.agg #[.int .i64 k, .int .i64 1, .int .i64 0]) ∧ Only [] w w' := by
  go_enter Try.func24, Try.ntmps24
  go_wp2_with (fail)
  exact bodyPost_ret (v := .agg #[.int .i64 k, .int .i64 1, .int .i64 0]) (by simp [results, Try.results24, go_sem]) rfl ⟨rfl, (Only.refl [] w).alloc _⟩
theorem of_any (s : St) (w : World) : Calls Try.prog 11 #[.agg #[.int .i64 s.1.1, .int .i64 s.1.2, .int .i64 s.2]] w fun e w' => e = .returned (.agg #[.int .i64 s.1.1, .int .i64 s.1.2, .int .i64 s.2]) ∧ Only [] w w' := by
  go_enter Try.func11, Try.ntmps11
  go_wp2_with (fail)
  exact bodyPost_ret (v := .agg #[.int .i64 s.1.1, .int .i64 s.1.2, .int .i64 s.2]) (by simp [results, Try.results11, go_sem]) rfl ⟨rfl, ((Only.refl [] w).alloc _).alloc _⟩
theorem TB.above {B : Nat} {w : World} {g : Nat} {room : Int} {L : List En} {A : Option Addr} {c : Nat} (h : TB B w g room L A c) : ∀ y ∈ g :: A.toList.map (·.block), B ≤ y := fun y hy => by
  rcases List.mem_cons.1 hy with rfl | hy
  · exact h.base
  · rw [List.mem_map] at hy
    obtain ⟨p, hp, rfl⟩ := hy
    exact (h.lt p (by simpa using hp)).2.1
theorem TB.below {B : Nat} {w : World} {g : Nat} {room : Int} {L : List En} {A : Option Addr} {c : Nat} (h : TB B w g room L A c) : ∀ y ∈ g :: A.toList.map (·.block), y < w.heap.size := fun y hy => by
  rcases List.mem_cons.1 hy with rfl | hy
  · exact h.blk.lt
  · rw [List.mem_map] at hy
    obtain ⟨p, hp, rfl⟩ := hy
    exact (h.lt p (by simpa using hp)).1
def u1 : St := ((1, 1), 0)
def u2 : St := ((2, 1), 0)
def u3 : St := ((3, 1), 0)
def u4 : St := ((2, 1), 1)
theorem ok_u1 : u1.ok := by unfold u1 St.ok Tm.ok I64; simp
theorem ok_u2 : u2.ok := by unfold u2 St.ok Tm.ok I64; simp
theorem ok_u3 : u3.ok := by unfold u3 St.ok Tm.ok I64; simp
theorem ok_u4 : u4.ok := by unfold u4 St.ok Tm.ok I64; simp
theorem i64_small {k : Int} (h : -1000 ≤ k ∧ k ≤ 1000) : I64 k := by unfold I64; omega
theorem trk1 : Trk [(u1, 10)] := Trk.put Trk.nil ok_u1 (x := 10) (i64_small (by decide)) 5 |> (fun h => by rw [show putL [] 5 u1 10 = [(u1, 10)] from by decide] at h; exact h)
theorem trk2 : Trk [(u1, 10), (u2, 20)] := Trk.put trk1 ok_u2 (x := 20) (i64_small (by decide)) 5 |> (fun h => by rw [show putL [(u1, 10)] 5 u2 20 = [(u1, 10), (u2, 20)] from by decide] at h; exact h)
theorem trk3 : Trk [(u1, 10), (u2, 20), (u3, 30)] := Trk.put trk2 ok_u3 (x := 30) (i64_small (by decide)) 5 |> (fun h => by rw [show putL [(u1, 10), (u2, 20)] 5 u3 30 = [(u1, 10), (u2, 20), (u3, 30)] from by decide] at h; exact h)

set_option maxHeartbeats 4000000 in
theorem awake_any (w : World) : Calls Try.prog 8 #[] w fun e w' => e = .returned (.bool true) ∧ Only [] w w' := by
  go_enter Try.func8, Try.ntmps8
  go_wp2_with (fail)
  refine (new_any (room := 5) (by decide) (by decide) w (B := w.heap.size) (Nat.le_refl _)).mono ?_
  rintro e w1 ⟨rfl, T, o⟩
  have O := Lib.hid o
  clear o
  go_wp2_with (fail)
  refine (whole_any 1 _).mono ?_
  rintro e w1 ⟨rfl, o⟩
  have T1 := T.keep o
  have O1 := Lib.hid (O.out.trans o (by simp))
  clear T O o
  have hB := O1.out.size
  have hp := put_any (s := u1) (x := 10) T1 Trk.nil ok_u1 (by simp) hB
  rw [show putE [] 5 u1 = 0 from by decide, show putL [] 5 u1 10 = [(u1, 10)] from by decide] at hp
  go_wp2_with (fail)
  refine hp.mono ?_
  clear hp
  rintro e w2 ⟨rfl, A2, c2, T, o, hA2⟩
  have O := Lib.hid (O1.out.trans o (fun y hy => .inr (T1.above y hy)))
  clear T1 O1 o hA2 hB
  go_wp2_with (fail)
  refine (whole_any 2 _).mono ?_
  rintro e w1 ⟨rfl, o⟩
  have T1 := T.keep o
  have O1 := Lib.hid (O.out.trans o (by simp))
  clear T O o
  have hB := O1.out.size
  have hp := put_any (s := u2) (x := 20) T1 trk1 ok_u2 (by simp) hB
  rw [show putE [(u1, 10)] 5 u2 = 0 from by decide, show putL [(u1, 10)] 5 u2 20 = [(u1, 10), (u2, 20)] from by decide] at hp
  go_wp2_with (fail)
  refine hp.mono ?_
  clear hp
  rintro e w2 ⟨rfl, A2, c2, T, o, hA2⟩
  have O := Lib.hid (O1.out.trans o (fun y hy => .inr (T1.above y hy)))
  clear T1 O1 o hA2 hB
  go_wp2_with (fail)
  refine (whole_any 3 _).mono ?_
  rintro e w1 ⟨rfl, o⟩
  have T1 := T.keep o
  have O1 := Lib.hid (O.out.trans o (by simp))
  clear T O o
  have hB := O1.out.size
  have hp := put_any (s := u3) (x := 30) T1 trk2 ok_u3 (by simp) hB
  rw [show putE [(u1, 10), (u2, 20)] 5 u3 = 0 from by decide, show putL [(u1, 10), (u2, 20)] 5 u3 30 = [(u1, 10), (u2, 20), (u3, 30)] from by decide] at hp
  go_wp2_with (fail)
  refine hp.mono ?_
  clear hp
  rintro e w2 ⟨rfl, A2, c2, T, o, hA2⟩
  have O := Lib.hid (O1.out.trans o (fun y hy => .inr (T1.above y hy)))
  clear T1 O1 o hA2 hB
  have ha := at_any (s := u4) T trk3 ok_u4 (by simp)
  rw [show atT [(u1, 10), (u2, 20), (u3, 30)] u4 = some (u2, 20) from by decide] at ha
  replace ha : Calls Try.prog 23 #[.pointer (some ⟨w.heap.size, 0, none⟩), .agg #[.int .i64 2, .int .i64 1, .int .i64 1]] w2 fun e w' => e = .returned (.tuple #[.agg #[.int .i64 2, .int .i64 1, .int .i64 0], .int .i64 20, .bool true]) ∧ Only [] w2 w' := ha
  go_wp2_with (fail)
  refine ha.mono ?_
  clear ha
  rintro e w3 ⟨rfl, o⟩
  have T3 := T.keep o
  have O3 := Lib.hid (O.out.trans o (by simp))
  clear T O o
  go_wp2_with (fail)
  have T4 := T3.keep ((Only.refl [] w3).alloc (.cells #[.int .i64 2, .int .i64 1, .int .i64 0] 34))
  have hX := Blk.new w3 34 #[.int .i64 2, .int .i64 1, .int .i64 0]
  have O4 := Lib.hid (O3.out.alloc (.cells #[.int .i64 2, .int .i64 1, .int .i64 0] 34))
  have hlt3 := T3.below
  have hX3 := O3.out.size
  clear T3 O3
  refine (whole_any 2 _).mono ?_
  rintro e w5 ⟨rfl, o⟩
  have T5 := T4.keep o
  have X5 := o.blk hX (by simp)
  have O5 := Lib.hid (O4.out.trans o (by simp))
  clear T4 hX O4 o
  have hb := back_any (s := u2) T5 trk3 ok_u2 (by decide) (by simp)
  rw [show upToT [(u1, 10), (u2, 20), (u3, 30)] u2 = 2 from by decide] at hb
  replace hb : Calls Try.prog 16 #[.pointer (some ⟨w.heap.size, 0, none⟩), .agg #[.int .i64 2, .int .i64 1, .int .i64 0]] w5 fun e w' => ∃ v, e = .returned v ∧ IntsAt w' w5.heap.size v [30] ∧ TB w.heap.size w' w.heap.size 5 [(u1, 10), (u2, 20)] A2 c2 ∧ Only (w.heap.size :: A2.toList.map (·.block)) w5 w' := hb
  go_wp2_with (fail)
  refine hb.mono ?_
  clear hb
  rintro e w6 ⟨v6, rfl, I6, T6, o⟩
  have X6 := o.blk X5 (fun h => Nat.lt_irrefl _ (hlt3 _ h))
  have hs5 := T5.blk.lt
  have hlt5 := T5.below
  have O6 := Lib.hid (O5.out.trans o (fun y hy => .inr (T5.above y hy)))
  clear T5 X5 O5 o
  go_wp2_with (fail)
  refine (whole_any 2 _).mono ?_
  rintro e w7 ⟨rfl, o⟩
  have T7 := T6.keep o
  have X7 := o.blk X6 (by simp)
  have I7 := I6.keep o (by simp)
  have O7 := Lib.hid (O6.out.trans o (by simp))
  clear T6 X6 I6 O6 o
  have hf := free_any (s := u2) T7 trk2 ok_u2 (by decide) (by simp)
  rw [show aheadT [(u1, 10), (u2, 20)] u2 = 1 from by decide] at hf
  replace hf : Calls Try.prog 17 #[.pointer (some ⟨w.heap.size, 0, none⟩), .agg #[.int .i64 2, .int .i64 1, .int .i64 0]] w7 fun e w' => ∃ v, e = .returned v ∧ IntsAt w' w7.heap.size v [10] ∧ TB w.heap.size w' w.heap.size 5 [(u2, 20)] A2 c2 ∧ Only (w.heap.size :: A2.toList.map (·.block)) w7 w' := hf
  go_wp2_with (fail)
  refine hf.mono ?_
  clear hf
  rintro e w8 ⟨v8, rfl, I8, T8, o⟩
  have X8 := o.blk X7 (fun h => Nat.lt_irrefl _ (hlt3 _ h))
  have J8 := I7.keep o hlt5
  have O8 := Lib.hid (O7.out.trans o (fun y hy => .inr (T7.above y hy)))
  clear T7 X7 I7 O7 o T8 hlt5 hlt3 hs5 hX3
  rcases J8 with ⟨_, h⟩ | ⟨h6, rfl, _, j6⟩
  · cases h
  rcases I8 with ⟨_, h⟩ | ⟨h8, rfl, _, j8⟩
  · cases h
  have XB := Lib.hid X8
  have J6 := Lib.hid (show Blk w8 h6 3 #[.int .i64 30] from j6)
  have J8 := Lib.hid (show Blk w8 h8 3 #[.int .i64 10] from j8)
  have hE : ∀ W, (binOp .eql 34 (.agg #[.int .i64 2, .int .i64 1, .int .i64 0]) (.agg #[.int .i64 2, .int .i64 1, .int .i64 0])).run Try.prog W = .ok (.bool true) W := fun W => by rw [eq_st34]; rfl
  clear X8 j6 j8
  simp only [List.length_cons, List.length_nil, Nat.zero_add]
  go_wp2_with (fail)
  refine wp_region_facts 48 [] (fr := ?frz) (tl := ?tlz) (fun i v wv => match i with
    | 0 => v = .int .i64 0
    | 1 => v = .bool true
    | 2 => v = .bool true
    | 3 => v = .int .i64 0
    | 4 => v = .bool true
    | 5 => v = .bool true
    | 6 => v = .bool true
    | 7 => v = .int .i64 0
    | 8 => v = .bool true
    | 9 => v = .bool true
    | 10 => v = .bool true
    | 11 => v = .int .i64 0
    | 12 => v = .bool true
    | 13 => v = .bool true
    | 14 => v = .bool true
    | 15 => v = .agg #[.int .i64 2, .int .i64 1, .int .i64 0]
    | 16 => v = .agg #[.int .i64 2, .int .i64 1, .int .i64 0]
    | 17 => v = .bool true
    | 18 => v = .bool true
    | 19 => v = .bool true
    | 20 => v = .int .i64 20
    | 21 => v = .bool true
    | 22 => v = .bool true
    | 23 => v = .bool true
    | 24 => v = .bool true
    | 25 => v = .bool true
    | 26 => v = .bool true
    | 27 => v = .slice (some ⟨h6, 0, none⟩) 1 1
    | 28 => v = .int .i64 1
    | 29 => v = .bool true
    | 30 => v = .bool true
    | 31 => v = .bool true
    | 32 => v = .slice (some ⟨h6, 0, none⟩) 1 1
    | 33 => v = .pointer (some ⟨h6, 0, none⟩)
    | 34 => v = .int .i64 30
    | 35 => v = .bool true
    | 36 => v = .bool true
    | 37 => v = .bool true
    | 38 => v = .slice (some ⟨h8, 0, none⟩) 1 1
    | 39 => v = .int .i64 1
    | 40 => v = .bool true
    | 41 => v = .bool true
    | 42 => v = .bool true
    | 43 => v = .slice (some ⟨h8, 0, none⟩) 1 1
    | 44 => v = .pointer (some ⟨h8, 0, none⟩)
    | 45 => v = .int .i64 10
    | 46 => v = .bool true
    | 47 => v = .bool true
    | _ => True) (by kernel_rfl) (by kernel_rfl) (by kernel_rfl) (by kernel_rfl) (by decide) ?htlz ?hfrz ?stabz ?stepsz ?donez
  case htlz => simp only [List.drop_succ_cons, List.drop_zero]; rfl
  case hfrz => intro vals; simp only [putAll, dstAt, Act.put, List.getElem?_toArray, List.getElem?_cons_zero, List.getElem?_cons_succ, Option.bind_some, List.setIfInBounds_toArray, List.set_cons_zero, List.set_cons_succ]; rfl
  case stabz =>
    intro i v wa wb h
    try dsimp only
    split <;> first | exact id | fail
  case stepsz =>
    refine ⟨?_, ?_, ?_, ?_, ?_, ?_, ?_, ?_, ?_, ?_, ?_, ?_, ?_, ?_, ?_, ?_, ?_, ?_, ?_, ?_, ?_, ?_, ?_, ?_, ?_, ?_, ?_, ?_, ?_, ?_, ?_, ?_, ?_, ?_, ?_, ?_, ?_, ?_, ?_, ?_, ?_, ?_, ?_, ?_, ?_, ?_, ?_, ?_, trivial⟩
    · intro vals wr hR hp K hK
      dsimp only at hK ⊢
      clear hp
      unfold RunsOp
      go_simp
      exact hK.out _ _ ⟨_, rfl, Only.refl _ _, rfl⟩
    · intro vals wr hR hp K hK
      dsimp only at hK ⊢
      obtain ⟨p0, -⟩ := hp
      replace p0 := p0 rfl
      dsimp only at p0
      rw [p0] at hK ⊢
      clear p0
      unfold RunsOp
      go_simp
      exact hK.out _ _ ⟨_, rfl, Only.refl _ _, rfl⟩
    · intro vals wr hR hp K hK
      dsimp only at hK ⊢
      obtain ⟨p1, -⟩ := hp
      replace p1 := p1 rfl
      dsimp only at p1
      rw [p1] at hK ⊢
      clear p1
      unfold RunsOp
      go_simp
      exact hK.out _ _ ⟨_, rfl, Only.refl _ _, rfl⟩
    · intro vals wr hR hp K hK
      dsimp only at hK ⊢
      obtain ⟨p2, -⟩ := hp
      replace p2 := p2 rfl
      dsimp only at p2
      rw [p2] at hK ⊢
      clear p2
      unfold RunsOp
      go_simp
      exact hK.out _ _ ⟨_, rfl, Only.refl _ _, rfl⟩
    · intro vals wr hR hp K hK
      dsimp only at hK ⊢
      obtain ⟨p3, p2, -⟩ := hp
      replace p3 := p3 rfl
      replace p2 := p2 rfl
      dsimp only at p3 p2
      rw [p3, p2] at hK ⊢
      clear p3 p2
      unfold RunsOp
      go_simp
      exact hK.out _ _ ⟨_, rfl, Only.refl _ _, rfl⟩
    · intro vals wr hR hp K hK
      dsimp only at hK ⊢
      obtain ⟨p2, p4, -⟩ := hp
      replace p2 := p2 rfl
      replace p4 := p4 rfl
      dsimp only at p2 p4
      rw [p2, p4] at hK ⊢
      clear p2 p4
      unfold RunsOp
      go_simp
      exact hK.out _ _ ⟨_, rfl, Only.refl _ _, rfl⟩
    · intro vals wr hR hp K hK
      dsimp only at hK ⊢
      obtain ⟨p5, -, -⟩ := hp
      replace p5 := p5 rfl
      dsimp only at p5
      rw [p5] at hK ⊢
      clear p5
      unfold RunsOp
      go_simp
      exact hK.out _ _ ⟨_, rfl, Only.refl _ _, rfl⟩
    · intro vals wr hR hp K hK
      dsimp only at hK ⊢
      obtain ⟨p6, -⟩ := hp
      replace p6 := p6 rfl
      dsimp only at p6
      rw [p6] at hK ⊢
      clear p6
      unfold RunsOp
      go_simp
      exact hK.out _ _ ⟨_, rfl, Only.refl _ _, rfl⟩
    · intro vals wr hR hp K hK
      dsimp only at hK ⊢
      obtain ⟨p7, p6, -⟩ := hp
      replace p7 := p7 rfl
      replace p6 := p6 rfl
      dsimp only at p7 p6
      rw [p7, p6] at hK ⊢
      clear p7 p6
      unfold RunsOp
      go_simp
      exact hK.out _ _ ⟨_, rfl, Only.refl _ _, rfl⟩
    · intro vals wr hR hp K hK
      dsimp only at hK ⊢
      obtain ⟨p6, p8, -⟩ := hp
      replace p6 := p6 rfl
      replace p8 := p8 rfl
      dsimp only at p6 p8
      rw [p6, p8] at hK ⊢
      clear p6 p8
      unfold RunsOp
      go_simp
      exact hK.out _ _ ⟨_, rfl, Only.refl _ _, rfl⟩
    · intro vals wr hR hp K hK
      dsimp only at hK ⊢
      obtain ⟨p9, -, -⟩ := hp
      replace p9 := p9 rfl
      dsimp only at p9
      rw [p9] at hK ⊢
      clear p9
      unfold RunsOp
      go_simp
      exact hK.out _ _ ⟨_, rfl, Only.refl _ _, rfl⟩
    · intro vals wr hR hp K hK
      dsimp only at hK ⊢
      obtain ⟨p10, -⟩ := hp
      replace p10 := p10 rfl
      dsimp only at p10
      rw [p10] at hK ⊢
      clear p10
      unfold RunsOp
      go_simp
      exact hK.out _ _ ⟨_, rfl, Only.refl _ _, rfl⟩
    · intro vals wr hR hp K hK
      dsimp only at hK ⊢
      obtain ⟨p11, p10, -⟩ := hp
      replace p11 := p11 rfl
      replace p10 := p10 rfl
      dsimp only at p11 p10
      rw [p11, p10] at hK ⊢
      clear p11 p10
      unfold RunsOp
      go_simp
      exact hK.out _ _ ⟨_, rfl, Only.refl _ _, rfl⟩
    · intro vals wr hR hp K hK
      dsimp only at hK ⊢
      obtain ⟨p10, p12, -⟩ := hp
      replace p10 := p10 rfl
      replace p12 := p12 rfl
      dsimp only at p10 p12
      rw [p10, p12] at hK ⊢
      clear p10 p12
      unfold RunsOp
      go_simp
      exact hK.out _ _ ⟨_, rfl, Only.refl _ _, rfl⟩
    · intro vals wr hR hp K hK
      dsimp only at hK ⊢
      obtain ⟨p13, -, -⟩ := hp
      replace p13 := p13 rfl
      dsimp only at p13
      rw [p13] at hK ⊢
      clear p13
      unfold RunsOp
      go_simp
      exact hK.out _ _ ⟨_, rfl, Only.refl _ _, rfl⟩
    · intro vals wr hR hp K hK
      dsimp only at hK ⊢
      obtain ⟨p14, -⟩ := hp
      replace p14 := p14 rfl
      dsimp only at p14
      rw [p14] at hK ⊢
      clear p14
      unfold RunsOp
      have tb := hR.blk (by first | exact XB.out | exact Blk.drew XB.out) (by simp)
      obtain ⟨c0, c1, c2, cl⟩ := tb.facts3
      clear tb
      go_simp
      exact hK.out _ _ ⟨_, rfl, Only.refl _ _, rfl⟩
    · intro vals wr hR hp K hK
      dsimp only at hK ⊢
      obtain ⟨p14, -, -⟩ := hp
      replace p14 := p14 rfl
      dsimp only at p14
      rw [p14] at hK ⊢
      clear p14
      unfold RunsOp
      go_simp
      refine (whole_any 2 _).mono ?_
      rintro e w2 ⟨rfl, o2⟩
      exact hK.out _ _ ⟨_, rfl, o2, rfl⟩
    · intro vals wr hR hp K hK
      dsimp only at hK ⊢
      obtain ⟨p15, p16, p14, -⟩ := hp
      replace p15 := p15 rfl
      replace p16 := p16 rfl
      replace p14 := p14 rfl
      dsimp only at p15 p16 p14
      obtain p16 := p16
      rw [p15, p16, p14] at hK ⊢
      clear p15 p16 p14
      unfold RunsOp
      go_simp
      exact hK.out _ _ ⟨_, rfl, Only.refl _ _, rfl⟩
    · intro vals wr hR hp K hK
      dsimp only at hK ⊢
      obtain ⟨p14, p17, -⟩ := hp
      replace p14 := p14 rfl
      replace p17 := p17 rfl
      dsimp only at p14 p17
      rw [p14, p17] at hK ⊢
      clear p14 p17
      unfold RunsOp
      go_simp
      exact hK.out _ _ ⟨_, rfl, Only.refl _ _, rfl⟩
    · intro vals wr hR hp K hK
      dsimp only at hK ⊢
      obtain ⟨p18, -, -⟩ := hp
      replace p18 := p18 rfl
      dsimp only at p18
      rw [p18] at hK ⊢
      clear p18
      unfold RunsOp
      go_simp
      exact hK.out _ _ ⟨_, rfl, Only.refl _ _, rfl⟩
    · intro vals wr hR hp K hK
      dsimp only at hK ⊢
      obtain ⟨p19, -⟩ := hp
      replace p19 := p19 rfl
      dsimp only at p19
      rw [p19] at hK ⊢
      clear p19
      unfold RunsOp
      go_simp
      exact hK.out _ _ ⟨_, rfl, Only.refl _ _, rfl⟩
    · intro vals wr hR hp K hK
      dsimp only at hK ⊢
      obtain ⟨p20, p19, -⟩ := hp
      replace p20 := p20 rfl
      replace p19 := p19 rfl
      dsimp only at p20 p19
      rw [p20, p19] at hK ⊢
      clear p20 p19
      unfold RunsOp
      go_simp
      exact hK.out _ _ ⟨_, rfl, Only.refl _ _, rfl⟩
    · intro vals wr hR hp K hK
      dsimp only at hK ⊢
      obtain ⟨p19, p21, -⟩ := hp
      replace p19 := p19 rfl
      replace p21 := p21 rfl
      dsimp only at p19 p21
      rw [p19, p21] at hK ⊢
      clear p19 p21
      unfold RunsOp
      go_simp
      exact hK.out _ _ ⟨_, rfl, Only.refl _ _, rfl⟩
    · intro vals wr hR hp K hK
      dsimp only at hK ⊢
      obtain ⟨p22, -, -⟩ := hp
      replace p22 := p22 rfl
      dsimp only at p22
      rw [p22] at hK ⊢
      clear p22
      unfold RunsOp
      go_simp
      exact hK.out _ _ ⟨_, rfl, Only.refl _ _, rfl⟩
    · intro vals wr hR hp K hK
      dsimp only at hK ⊢
      obtain ⟨p23, -⟩ := hp
      replace p23 := p23 rfl
      dsimp only at p23
      rw [p23] at hK ⊢
      clear p23
      unfold RunsOp
      go_simp
      exact hK.out _ _ ⟨_, rfl, Only.refl _ _, rfl⟩
    · intro vals wr hR hp K hK
      dsimp only at hK ⊢
      obtain ⟨p23, p24, -⟩ := hp
      replace p23 := p23 rfl
      replace p24 := p24 rfl
      dsimp only at p23 p24
      rw [p23, p24] at hK ⊢
      clear p23 p24
      unfold RunsOp
      go_simp
      exact hK.out _ _ ⟨_, rfl, Only.refl _ _, rfl⟩
    · intro vals wr hR hp K hK
      dsimp only at hK ⊢
      obtain ⟨p25, -, -⟩ := hp
      replace p25 := p25 rfl
      dsimp only at p25
      rw [p25] at hK ⊢
      clear p25
      unfold RunsOp
      go_simp
      exact hK.out _ _ ⟨_, rfl, Only.refl _ _, rfl⟩
    · intro vals wr hR hp K hK
      dsimp only at hK ⊢
      obtain ⟨p26, -⟩ := hp
      replace p26 := p26 rfl
      dsimp only at p26
      rw [p26] at hK ⊢
      clear p26
      unfold RunsOp
      go_simp
      exact hK.out _ _ ⟨_, rfl, Only.refl _ _, rfl⟩
    · intro vals wr hR hp K hK
      dsimp only at hK ⊢
      obtain ⟨p27, p26, -⟩ := hp
      replace p27 := p27 rfl
      replace p26 := p26 rfl
      dsimp only at p27 p26
      rw [p27, p26] at hK ⊢
      clear p27 p26
      unfold RunsOp
      go_simp
      exact hK.out _ _ ⟨_, rfl, Only.refl _ _, rfl⟩
    · intro vals wr hR hp K hK
      dsimp only at hK ⊢
      obtain ⟨p28, p26, -⟩ := hp
      replace p28 := p28 rfl
      replace p26 := p26 rfl
      dsimp only at p28 p26
      rw [p28, p26] at hK ⊢
      clear p28 p26
      unfold RunsOp
      go_simp
      exact hK.out _ _ ⟨_, rfl, Only.refl _ _, rfl⟩
    · intro vals wr hR hp K hK
      dsimp only at hK ⊢
      obtain ⟨p26, p29, -⟩ := hp
      replace p26 := p26 rfl
      replace p29 := p29 rfl
      dsimp only at p26 p29
      rw [p26, p29] at hK ⊢
      clear p26 p29
      unfold RunsOp
      go_simp
      exact hK.out _ _ ⟨_, rfl, Only.refl _ _, rfl⟩
    · intro vals wr hR hp K hK
      dsimp only at hK ⊢
      obtain ⟨p30, -, -⟩ := hp
      replace p30 := p30 rfl
      dsimp only at p30
      rw [p30] at hK ⊢
      clear p30
      unfold RunsOp
      go_simp
      exact hK.out _ _ ⟨_, rfl, Only.refl _ _, rfl⟩
    · intro vals wr hR hp K hK
      dsimp only at hK ⊢
      obtain ⟨p31, -⟩ := hp
      replace p31 := p31 rfl
      dsimp only at p31
      rw [p31] at hK ⊢
      clear p31
      unfold RunsOp
      go_simp
      exact hK.out _ _ ⟨_, rfl, Only.refl _ _, rfl⟩
    · intro vals wr hR hp K hK
      dsimp only at hK ⊢
      obtain ⟨p32, p31, -⟩ := hp
      replace p32 := p32 rfl
      replace p31 := p31 rfl
      dsimp only at p32 p31
      rw [p32, p31] at hK ⊢
      clear p32 p31
      unfold RunsOp
      go_simp
      exact hK.out _ _ ⟨_, rfl, Only.refl _ _, rfl⟩
    · intro vals wr hR hp K hK
      dsimp only at hK ⊢
      obtain ⟨p33, p31, -⟩ := hp
      replace p33 := p33 rfl
      replace p31 := p31 rfl
      dsimp only at p33 p31
      rw [p33, p31] at hK ⊢
      clear p33 p31
      unfold RunsOp
      have tb := hR.blk (Blk.drew J6.out) (by simp)
      obtain ⟨c0, cl⟩ := tb.facts1
      clear tb
      go_simp
      exact hK.out _ _ ⟨_, rfl, Only.refl _ _, rfl⟩
    · intro vals wr hR hp K hK
      dsimp only at hK ⊢
      obtain ⟨p34, p31, -⟩ := hp
      replace p34 := p34 rfl
      replace p31 := p31 rfl
      dsimp only at p34 p31
      rw [p34, p31] at hK ⊢
      clear p34 p31
      unfold RunsOp
      go_simp
      exact hK.out _ _ ⟨_, rfl, Only.refl _ _, rfl⟩
    · intro vals wr hR hp K hK
      dsimp only at hK ⊢
      obtain ⟨p31, p35, -⟩ := hp
      replace p31 := p31 rfl
      replace p35 := p35 rfl
      dsimp only at p31 p35
      rw [p31, p35] at hK ⊢
      clear p31 p35
      unfold RunsOp
      go_simp
      exact hK.out _ _ ⟨_, rfl, Only.refl _ _, rfl⟩
    · intro vals wr hR hp K hK
      dsimp only at hK ⊢
      obtain ⟨p36, -, -⟩ := hp
      replace p36 := p36 rfl
      dsimp only at p36
      rw [p36] at hK ⊢
      clear p36
      unfold RunsOp
      go_simp
      exact hK.out _ _ ⟨_, rfl, Only.refl _ _, rfl⟩
    · intro vals wr hR hp K hK
      dsimp only at hK ⊢
      obtain ⟨p37, -⟩ := hp
      replace p37 := p37 rfl
      dsimp only at p37
      rw [p37] at hK ⊢
      clear p37
      unfold RunsOp
      go_simp
      exact hK.out _ _ ⟨_, rfl, Only.refl _ _, rfl⟩
    · intro vals wr hR hp K hK
      dsimp only at hK ⊢
      obtain ⟨p38, p37, -⟩ := hp
      replace p38 := p38 rfl
      replace p37 := p37 rfl
      dsimp only at p38 p37
      rw [p38, p37] at hK ⊢
      clear p38 p37
      unfold RunsOp
      go_simp
      exact hK.out _ _ ⟨_, rfl, Only.refl _ _, rfl⟩
    · intro vals wr hR hp K hK
      dsimp only at hK ⊢
      obtain ⟨p39, p37, -⟩ := hp
      replace p39 := p39 rfl
      replace p37 := p37 rfl
      dsimp only at p39 p37
      rw [p39, p37] at hK ⊢
      clear p39 p37
      unfold RunsOp
      go_simp
      exact hK.out _ _ ⟨_, rfl, Only.refl _ _, rfl⟩
    · intro vals wr hR hp K hK
      dsimp only at hK ⊢
      obtain ⟨p37, p40, -⟩ := hp
      replace p37 := p37 rfl
      replace p40 := p40 rfl
      dsimp only at p37 p40
      rw [p37, p40] at hK ⊢
      clear p37 p40
      unfold RunsOp
      go_simp
      exact hK.out _ _ ⟨_, rfl, Only.refl _ _, rfl⟩
    · intro vals wr hR hp K hK
      dsimp only at hK ⊢
      obtain ⟨p41, -, -⟩ := hp
      replace p41 := p41 rfl
      dsimp only at p41
      rw [p41] at hK ⊢
      clear p41
      unfold RunsOp
      go_simp
      exact hK.out _ _ ⟨_, rfl, Only.refl _ _, rfl⟩
    · intro vals wr hR hp K hK
      dsimp only at hK ⊢
      obtain ⟨p42, -⟩ := hp
      replace p42 := p42 rfl
      dsimp only at p42
      rw [p42] at hK ⊢
      clear p42
      unfold RunsOp
      go_simp
      exact hK.out _ _ ⟨_, rfl, Only.refl _ _, rfl⟩
    · intro vals wr hR hp K hK
      dsimp only at hK ⊢
      obtain ⟨p43, p42, -⟩ := hp
      replace p43 := p43 rfl
      replace p42 := p42 rfl
      dsimp only at p43 p42
      rw [p43, p42] at hK ⊢
      clear p43 p42
      unfold RunsOp
      go_simp
      exact hK.out _ _ ⟨_, rfl, Only.refl _ _, rfl⟩
    · intro vals wr hR hp K hK
      dsimp only at hK ⊢
      obtain ⟨p44, p42, -⟩ := hp
      replace p44 := p44 rfl
      replace p42 := p42 rfl
      dsimp only at p44 p42
      rw [p44, p42] at hK ⊢
      clear p44 p42
      unfold RunsOp
      have tb := hR.blk (Blk.drew J8.out) (by simp)
      obtain ⟨c0, cl⟩ := tb.facts1
      clear tb
      go_simp
      exact hK.out _ _ ⟨_, rfl, Only.refl _ _, rfl⟩
    · intro vals wr hR hp K hK
      dsimp only at hK ⊢
      obtain ⟨p45, p42, -⟩ := hp
      replace p45 := p45 rfl
      replace p42 := p42 rfl
      dsimp only at p45 p42
      rw [p45, p42] at hK ⊢
      clear p45 p42
      unfold RunsOp
      go_simp
      exact hK.out _ _ ⟨_, rfl, Only.refl _ _, rfl⟩
    · intro vals wr hR hp K hK
      dsimp only at hK ⊢
      obtain ⟨p42, p46, -⟩ := hp
      replace p42 := p42 rfl
      replace p46 := p46 rfl
      dsimp only at p42 p46
      rw [p42, p46] at hK ⊢
      clear p42 p46
      unfold RunsOp
      go_simp
      exact hK.out _ _ ⟨_, rfl, Only.refl _ _, rfl⟩
  case donez =>
    intro vals wd hR hF
    have f47 : vals 47 = .bool true := hF 47 (by decide)
    rw [f47]
    have O9 := Lib.hid (O8.out.drew.trans hR (by simp))
    clear hF f47 hR
    go_wp2_with (fail)
    go_ret
    exact ⟨rfl, O9.out⟩
end Go.Proofs.Ytcggeogpanackaa
