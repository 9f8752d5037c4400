/- The reference's Put. -/
import Derived.Test.YtcggeogpanackaaRow4
namespace Go.Proofs.Ytcggeogpanackaa
open Go.RowKit Go.Kx
set_option maxRecDepth 20000

set_option maxHeartbeats 4000000 in
theorem rput_wrong {s : St} {x room : Int} {A : Option Addr} {n c : Nat} {w : World} (os : s.ok) (rs : stR s = false) :
    Calls Try.prog 12 #[.slice A n c, .int .i64 room, .agg #[.int .i64 s.1.1, .int .i64 s.1.2, .int .i64 s.2], .int .i64 x] w fun e w' => e = .returned (.tuple #[.slice A n c, .int .i64 1]) ∧ Only [] w w' := by
  have O0 := Lib.hid (Only.refl [] w)
  have RS := Lib.hid rs
  clear rs
  go_enter Try.func12, Try.ntmps12
  have SB := Lib.hid ((by have h := Blk.new w 26 #[.int .i64 s.1.1, .int .i64 s.1.2, .int .i64 s.2]; simpa using h : Blk (w.alloc (.cells #[.int .i64 s.1.1, .int .i64 s.1.2, .int .i64 s.2] 26)) (w.heap.size) 26 #[.int .i64 s.1.1, .int .i64 s.1.2, .int .i64 s.2]) : Blk (w.alloc (.cells #[.int .i64 s.1.1, .int .i64 s.1.2, .int .i64 s.2] 26)) (w.heap.size) 26 #[.int .i64 s.1.1, .int .i64 s.1.2, .int .i64 s.2])
  have O1 := Lib.hid ((O0.out.alloc _) : Only [] w (w.alloc (.cells #[.int .i64 s.1.1, .int .i64 s.1.2, .int .i64 s.2] 26)))
  clear O0
  go_wp2_with (fail)
  refine wp_region_facts 8 [] (fr := ?fra) (tl := ?tla) (fun i v wv => match i with
    | 0 => v = .agg #[.int .i64 s.1.1, .int .i64 s.1.2, .int .i64 s.2]
    | 1 => v = .bool false
    | 2 => v = .bool true
    | 3 => v = .bool true
    | 4 => v = undef
    | 5 => v = undef
    | 6 => v = undef
    | 7 => v = .bool true
    | _ => True) (by kernel_rfl) (by kernel_rfl) (by kernel_rfl) (by kernel_rfl) (by decide) ?htla ?hfra ?staba ?stepsa ?donea
  case htla => simp only [List.drop_succ_cons, List.drop_zero]; rfl
  case hfra => intro vals; simp only [putAll, dstAt, Act.put, List.getElem?_toArray, List.getElem?_cons_zero, List.getElem?_cons_succ, Option.bind_some, List.setIfInBounds_toArray, List.set_cons_zero, List.set_cons_succ]; rfl
  case staba =>
    intro i v wa wb h
    try dsimp only
    split <;> first | exact id | fail
  case stepsa =>
    refine ⟨?_, ?_, ?_, ?_, ?_, ?_, ?_, ?_, trivial⟩
    · intro vals wr hR hp K hK
      dsimp only at hK ⊢
      clear hp
      unfold RunsOp
      have tbSB := hR.blk (by first | exact SB.out | exact Blk.drew SB.out) (by simp)
      obtain ⟨cSB0, cSB1, cSB2, clSB⟩ := tbSB.facts3
      clear tbSB
      go_simp
      exact hK.out _ _ ⟨_, rfl, Only.refl _ _, rfl⟩
    · intro vals wr hR hp K hK
      dsimp only at hK ⊢
      obtain ⟨p0, -⟩ := hp
      replace p0 := p0 rfl
      dsimp only at p0
      rw [p0] at hK ⊢
      clear p0
      unfold RunsOp
      go_simp
      refine (refstr os RS.out _).mono ?_
      rintro e w2 ⟨rfl, o2⟩
      exact hK.out _ _ ⟨_, rfl, o2, rfl⟩
    · intro vals wr hR hp K hK
      dsimp only at hK ⊢
      obtain ⟨p1, -⟩ := hp
      replace p1 := p1 rfl
      dsimp only at p1
      obtain p1 := p1
      rw [p1] at hK ⊢
      clear p1
      unfold RunsOp
      go_simp
      exact hK.out _ _ ⟨_, rfl, Only.refl _ _, rfl⟩
    · intro vals wr hR hp K hK
      dsimp only at hK ⊢
      obtain ⟨p2, -, -⟩ := hp
      replace p2 := p2 rfl
      dsimp only at p2
      rw [p2] at hK ⊢
      clear p2
      unfold RunsOp
      go_simp
      exact hK.out _ _ ⟨_, rfl, Only.refl _ _, rfl⟩
    · intro vals wr hR hp K hK
      dsimp only at hK ⊢
      obtain ⟨p3, -⟩ := hp
      replace p3 := p3 rfl
      dsimp only at p3
      rw [p3] at hK ⊢
      clear p3
      unfold RunsOp
      go_simp
      exact hK.out _ _ ⟨_, rfl, Only.refl _ _, rfl⟩
    · intro vals wr hR hp K hK
      dsimp only at hK ⊢
      obtain ⟨p3, -, -⟩ := hp
      replace p3 := p3 rfl
      dsimp only at p3
      rw [p3] at hK ⊢
      clear p3
      unfold RunsOp
      go_simp
      exact hK.out _ _ ⟨_, rfl, Only.refl _ _, rfl⟩
    · intro vals wr hR hp K hK
      dsimp only at hK ⊢
      obtain ⟨p4, p5, p3, -⟩ := hp
      replace p4 := p4 rfl
      replace p5 := p5 rfl
      replace p3 := p3 rfl
      dsimp only at p4 p5 p3
      rw [p4, p5, p3] at hK ⊢
      clear p4 p5 p3
      unfold RunsOp
      go_simp
      exact hK.out _ _ ⟨_, rfl, Only.refl _ _, rfl⟩
    · intro vals wr hR hp K hK
      dsimp only at hK ⊢
      obtain ⟨p3, p6, -⟩ := hp
      replace p3 := p3 rfl
      replace p6 := p6 rfl
      dsimp only at p3 p6
      rw [p3, p6] at hK ⊢
      clear p3 p6
      unfold RunsOp
      go_simp
      exact hK.out _ _ ⟨_, rfl, Only.refl _ _, rfl⟩
  intro vals w2 hR hF
  have f7 : vals 7 = .bool true := hF 7 (by decide)
  rw [f7]
  clear hF f7
  refine wpList_nil ?_
  have SBx := hR.blk (t := 26) (cs := #[.int .i64 s.1.1, .int .i64 s.1.2, .int .i64 s.2]) (g := w.heap.size) (by first | exact SB.out | exact Blk.drewN SB.out _ | exact Blk.drew SB.out) (by simp)
  have O2x : Only [] w w2 := (by first | exact Only.trans O1.out hR (by simp) | exact Only.trans (Only.drewN O1.out _) hR (by simp) | exact Only.trans (Only.drew O1.out) hR (by simp))
  obtain ⟨SBc0, SBc1, SBc2, SBl⟩ := SBx.facts3
  clear SB O1 hR
  have SB := Lib.hid SBx; have O2 := Lib.hid O2x
  clear SBx O2x
  go_wp2_with (fail)
  exact bodyPost_ret (v := .tuple #[.slice A n c, .int .i64 1]) (by simp [results, Try.results12, go_sem]) rfl ⟨rfl, O2.out⟩

set_option maxHeartbeats 4000000 in
theorem rput_never {x room : Int} {A : Option Addr} {n c : Nat} {w : World}  :
    Calls Try.prog 12 #[.slice A n c, .int .i64 room, .agg #[.int .i64 1, .int .i64 0, .int .i64 0], .int .i64 x] w fun e w' => e = .returned (.tuple #[.slice A n c, .int .i64 1]) ∧ Only [] w w' := by
  have O0 := Lib.hid (Only.refl [] w)
  have hE := eq_st26T
  go_enter Try.func12, Try.ntmps12
  have SB := Lib.hid ((by have h := Blk.new w 26 #[.int .i64 1, .int .i64 0, .int .i64 0]; simpa using h : Blk (w.alloc (.cells #[.int .i64 1, .int .i64 0, .int .i64 0] 26)) (w.heap.size) 26 #[.int .i64 1, .int .i64 0, .int .i64 0]) : Blk (w.alloc (.cells #[.int .i64 1, .int .i64 0, .int .i64 0] 26)) (w.heap.size) 26 #[.int .i64 1, .int .i64 0, .int .i64 0])
  have O1 := Lib.hid ((O0.out.alloc _) : Only [] w (w.alloc (.cells #[.int .i64 1, .int .i64 0, .int .i64 0] 26)))
  clear O0
  go_wp2_with (fail)
  refine wp_region_facts 8 [] (fr := ?fra) (tl := ?tla) (fun i v wv => match i with
    | 0 => v = .agg #[.int .i64 1, .int .i64 0, .int .i64 0]
    | 1 => v = .bool true
    | 2 => v = .bool false
    | 3 => v = .bool false
    | 4 => v = .agg #[.int .i64 1, .int .i64 0, .int .i64 0]
    | 5 => v = .agg #[.int .i64 1, .int .i64 0, .int .i64 0]
    | 6 => v = .bool true
    | 7 => v = .bool true
    | _ => True) (by kernel_rfl) (by kernel_rfl) (by kernel_rfl) (by kernel_rfl) (by decide) ?htla ?hfra ?staba ?stepsa ?donea
  case htla => simp only [List.drop_succ_cons, List.drop_zero]; rfl
  case hfra => intro vals; simp only [putAll, dstAt, Act.put, List.getElem?_toArray, List.getElem?_cons_zero, List.getElem?_cons_succ, Option.bind_some, List.setIfInBounds_toArray, List.set_cons_zero, List.set_cons_succ]; rfl
  case staba =>
    intro i v wa wb h
    try dsimp only
    split <;> first | exact id | fail
  case stepsa =>
    refine ⟨?_, ?_, ?_, ?_, ?_, ?_, ?_, ?_, trivial⟩
    · intro vals wr hR hp K hK
      dsimp only at hK ⊢
      clear hp
      unfold RunsOp
      have tbSB := hR.blk (by first | exact SB.out | exact Blk.drew SB.out) (by simp)
      obtain ⟨cSB0, cSB1, cSB2, clSB⟩ := tbSB.facts3
      clear tbSB
      go_simp
      exact hK.out _ _ ⟨_, rfl, Only.refl _ _, rfl⟩
    · intro vals wr hR hp K hK
      dsimp only at hK ⊢
      obtain ⟨p0, -⟩ := hp
      replace p0 := p0 rfl
      dsimp only at p0
      rw [p0] at hK ⊢
      clear p0
      unfold RunsOp
      go_simp
      refine (refstr (s := ((1, 0), 0)) ok_neverS stR_never _).mono ?_
      rintro e w2 ⟨rfl, o2⟩
      exact hK.out _ _ ⟨_, rfl, o2, rfl⟩
    · intro vals wr hR hp K hK
      dsimp only at hK ⊢
      obtain ⟨p1, -⟩ := hp
      replace p1 := p1 rfl
      dsimp only at p1
      obtain p1 := p1
      rw [p1] at hK ⊢
      clear p1
      unfold RunsOp
      go_simp
      exact hK.out _ _ ⟨_, rfl, Only.refl _ _, rfl⟩
    · intro vals wr hR hp K hK
      dsimp only at hK ⊢
      obtain ⟨p2, -, -⟩ := hp
      replace p2 := p2 rfl
      dsimp only at p2
      rw [p2] at hK ⊢
      clear p2
      unfold RunsOp
      go_simp
      exact hK.out _ _ ⟨_, rfl, Only.refl _ _, rfl⟩
    · intro vals wr hR hp K hK
      dsimp only at hK ⊢
      obtain ⟨p3, -⟩ := hp
      replace p3 := p3 rfl
      dsimp only at p3
      rw [p3] at hK ⊢
      clear p3
      unfold RunsOp
      have tbSB := hR.blk (by first | exact SB.out | exact Blk.drew SB.out) (by simp)
      obtain ⟨cSB0, cSB1, cSB2, clSB⟩ := tbSB.facts3
      clear tbSB
      go_simp
      exact hK.out _ _ ⟨_, rfl, Only.refl _ _, rfl⟩
    · intro vals wr hR hp K hK
      dsimp only at hK ⊢
      obtain ⟨p3, -, -⟩ := hp
      replace p3 := p3 rfl
      dsimp only at p3
      rw [p3] at hK ⊢
      clear p3
      unfold RunsOp
      go_simp
      refine (refstnever_any _).mono ?_
      rintro e w2 ⟨rfl, o2⟩
      exact hK.out _ _ ⟨_, rfl, o2, rfl⟩
    · intro vals wr hR hp K hK
      dsimp only at hK ⊢
      obtain ⟨p4, p5, p3, -⟩ := hp
      replace p4 := p4 rfl
      replace p5 := p5 rfl
      replace p3 := p3 rfl
      dsimp only at p4 p5 p3
      obtain p5 := p5
      rw [p4, p5, p3] at hK ⊢
      clear p4 p5 p3
      unfold RunsOp
      go_simp
      exact hK.out _ _ ⟨_, rfl, Only.refl _ _, rfl⟩
    · intro vals wr hR hp K hK
      dsimp only at hK ⊢
      obtain ⟨p3, p6, -⟩ := hp
      replace p3 := p3 rfl
      replace p6 := p6 rfl
      dsimp only at p3 p6
      rw [p3, p6] at hK ⊢
      clear p3 p6
      unfold RunsOp
      go_simp
      exact hK.out _ _ ⟨_, rfl, Only.refl _ _, rfl⟩
  intro vals w2 hR hF
  have f7 : vals 7 = .bool true := hF 7 (by decide)
  rw [f7]
  clear hF f7
  refine wpList_nil ?_
  have SBx := hR.blk (t := 26) (cs := #[.int .i64 1, .int .i64 0, .int .i64 0]) (g := w.heap.size) (by first | exact SB.out | exact Blk.drewN SB.out _ | exact Blk.drew SB.out) (by simp)
  have O2x : Only [] w w2 := (by first | exact Only.trans O1.out hR (by simp) | exact Only.trans (Only.drewN O1.out _) hR (by simp) | exact Only.trans (Only.drew O1.out) hR (by simp))
  obtain ⟨SBc0, SBc1, SBc2, SBl⟩ := SBx.facts3
  clear SB O1 hR
  have SB := Lib.hid SBx; have O2 := Lib.hid O2x
  clear SBx O2x
  go_wp2_with (fail)
  exact bodyPost_ret (v := .tuple #[.slice A n c, .int .i64 1]) (by simp [results, Try.results12, go_sem]) rfl ⟨rfl, O2.out⟩

set_option maxHeartbeats 4000000 in
theorem rput_state {s : St} {x room : Int} {b c m : Nat} {l : En} {w : World} (os : s.ok) (rs : stR s = true) (hn : s ≠ ((1, 0), 0)) (h20 : m ≤ 1048576) (hb : b < w.heap.size) (c0 : w.cell? ⟨b, m * 4, none⟩ = some (.int .i64 l.1.1.1)) (c1 : w.cell? ⟨b, m * 4 + 1, none⟩ = some (.int .i64 l.1.1.2)) (c2 : w.cell? ⟨b, m * 4 + 2, none⟩ = some (.int .i64 l.1.2)) (ol : l.1.ok) {y : Int} (hy : stC l.1 s = y) (hd : decide (0 ≤ y) = true) :
    Calls Try.prog 12 #[.slice (some ⟨b, 0, none⟩) (m + 1) c, .int .i64 room, .agg #[.int .i64 s.1.1, .int .i64 s.1.2, .int .i64 s.2], .int .i64 x] w fun e w' => e = .returned (.tuple #[.slice (some ⟨b, 0, none⟩) (m + 1) c, .int .i64 15]) ∧ Only [] w w' := by
  have O0 := Lib.hid (Only.refl [] w)
  have hw64 : IntKind.i64.wrap (m : Int) = (m : Int) := by rw [IntKind.wrap_i64]; omega
  have hmm : (m : Int) < (m : Int) + 1 := by omega
  have HC0 := Lib.hid c0
  have HC1 := Lib.hid c1
  have HC2 := Lib.hid c2
  have HY := Lib.hid hy
  clear c0 c1 c2 hy
  have RS := Lib.hid rs
  have hE := eq_st26F hn
  clear rs hn
  go_enter Try.func12, Try.ntmps12
  have SB := Lib.hid ((by have h := Blk.new w 26 #[.int .i64 s.1.1, .int .i64 s.1.2, .int .i64 s.2]; simpa using h : Blk (w.alloc (.cells #[.int .i64 s.1.1, .int .i64 s.1.2, .int .i64 s.2] 26)) (w.heap.size) 26 #[.int .i64 s.1.1, .int .i64 s.1.2, .int .i64 s.2]) : Blk (w.alloc (.cells #[.int .i64 s.1.1, .int .i64 s.1.2, .int .i64 s.2] 26)) (w.heap.size) 26 #[.int .i64 s.1.1, .int .i64 s.1.2, .int .i64 s.2])
  have O1 := Lib.hid ((O0.out.alloc _) : Only [] w (w.alloc (.cells #[.int .i64 s.1.1, .int .i64 s.1.2, .int .i64 s.2] 26)))
  clear O0
  go_wp2_with (fail)
  refine wp_region_facts 8 [] (fr := ?fra) (tl := ?tla) (fun i v wv => match i with
    | 0 => v = .agg #[.int .i64 s.1.1, .int .i64 s.1.2, .int .i64 s.2]
    | 1 => v = .bool true
    | 2 => v = .bool false
    | 3 => v = .bool false
    | 4 => v = .agg #[.int .i64 s.1.1, .int .i64 s.1.2, .int .i64 s.2]
    | 5 => v = .agg #[.int .i64 1, .int .i64 0, .int .i64 0]
    | 6 => v = .bool false
    | 7 => v = .bool false
    | _ => True) (by kernel_rfl) (by kernel_rfl) (by kernel_rfl) (by kernel_rfl) (by decide) ?htla ?hfra ?staba ?stepsa ?donea
  case htla => simp only [List.drop_succ_cons, List.drop_zero]; rfl
  case hfra => intro vals; simp only [putAll, dstAt, Act.put, List.getElem?_toArray, List.getElem?_cons_zero, List.getElem?_cons_succ, Option.bind_some, List.setIfInBounds_toArray, List.set_cons_zero, List.set_cons_succ]; rfl
  case staba =>
    intro i v wa wb h
    try dsimp only
    split <;> first | exact id | fail
  case stepsa =>
    refine ⟨?_, ?_, ?_, ?_, ?_, ?_, ?_, ?_, trivial⟩
    · intro vals wr hR hp K hK
      dsimp only at hK ⊢
      clear hp
      unfold RunsOp
      have tbSB := hR.blk (by first | exact SB.out | exact Blk.drew SB.out) (by simp)
      obtain ⟨cSB0, cSB1, cSB2, clSB⟩ := tbSB.facts3
      clear tbSB
      go_simp
      exact hK.out _ _ ⟨_, rfl, Only.refl _ _, rfl⟩
    · intro vals wr hR hp K hK
      dsimp only at hK ⊢
      obtain ⟨p0, -⟩ := hp
      replace p0 := p0 rfl
      dsimp only at p0
      rw [p0] at hK ⊢
      clear p0
      unfold RunsOp
      go_simp
      refine (refstr os RS.out _).mono ?_
      rintro e w2 ⟨rfl, o2⟩
      exact hK.out _ _ ⟨_, rfl, o2, rfl⟩
    · intro vals wr hR hp K hK
      dsimp only at hK ⊢
      obtain ⟨p1, -⟩ := hp
      replace p1 := p1 rfl
      dsimp only at p1
      obtain p1 := p1
      rw [p1] at hK ⊢
      clear p1
      unfold RunsOp
      go_simp
      exact hK.out _ _ ⟨_, rfl, Only.refl _ _, rfl⟩
    · intro vals wr hR hp K hK
      dsimp only at hK ⊢
      obtain ⟨p2, -, -⟩ := hp
      replace p2 := p2 rfl
      dsimp only at p2
      rw [p2] at hK ⊢
      clear p2
      unfold RunsOp
      go_simp
      exact hK.out _ _ ⟨_, rfl, Only.refl _ _, rfl⟩
    · intro vals wr hR hp K hK
      dsimp only at hK ⊢
      obtain ⟨p3, -⟩ := hp
      replace p3 := p3 rfl
      dsimp only at p3
      rw [p3] at hK ⊢
      clear p3
      unfold RunsOp
      have tbSB := hR.blk (by first | exact SB.out | exact Blk.drew SB.out) (by simp)
      obtain ⟨cSB0, cSB1, cSB2, clSB⟩ := tbSB.facts3
      clear tbSB
      go_simp
      exact hK.out _ _ ⟨_, rfl, Only.refl _ _, rfl⟩
    · intro vals wr hR hp K hK
      dsimp only at hK ⊢
      obtain ⟨p3, -, -⟩ := hp
      replace p3 := p3 rfl
      dsimp only at p3
      rw [p3] at hK ⊢
      clear p3
      unfold RunsOp
      go_simp
      refine (refstnever_any _).mono ?_
      rintro e w2 ⟨rfl, o2⟩
      exact hK.out _ _ ⟨_, rfl, o2, rfl⟩
    · intro vals wr hR hp K hK
      dsimp only at hK ⊢
      obtain ⟨p4, p5, p3, -⟩ := hp
      replace p4 := p4 rfl
      replace p5 := p5 rfl
      replace p3 := p3 rfl
      dsimp only at p4 p5 p3
      obtain p5 := p5
      rw [p4, p5, p3] at hK ⊢
      clear p4 p5 p3
      unfold RunsOp
      go_simp
      exact hK.out _ _ ⟨_, rfl, Only.refl _ _, rfl⟩
    · intro vals wr hR hp K hK
      dsimp only at hK ⊢
      obtain ⟨p3, p6, -⟩ := hp
      replace p3 := p3 rfl
      replace p6 := p6 rfl
      dsimp only at p3 p6
      rw [p3, p6] at hK ⊢
      clear p3 p6
      unfold RunsOp
      go_simp
      exact hK.out _ _ ⟨_, rfl, Only.refl _ _, rfl⟩
  intro vals w2 hR hF
  have f7 : vals 7 = .bool false := hF 7 (by decide)
  rw [f7]
  clear hF f7
  refine wpList_nil ?_
  have SBx := hR.blk (t := 26) (cs := #[.int .i64 s.1.1, .int .i64 s.1.2, .int .i64 s.2]) (g := w.heap.size) (by first | exact SB.out | exact Blk.drewN SB.out _ | exact Blk.drew SB.out) (by simp)
  have O2x : Only [] w w2 := (by first | exact Only.trans O1.out hR (by simp) | exact Only.trans (Only.drewN O1.out _) hR (by simp) | exact Only.trans (Only.drew O1.out) hR (by simp))
  obtain ⟨SBc0, SBc1, SBc2, SBl⟩ := SBx.facts3
  clear SB O1 hR
  have SB := Lib.hid SBx; have O2 := Lib.hid O2x
  clear SBx O2x
  have HC0' := (O2.out.cell (p := ⟨b, m * 4, none⟩) hb (by simp)).trans HC0.out
  have HC1' := (O2.out.cell (p := ⟨b, m * 4 + 1, none⟩) hb (by simp)).trans HC1.out
  have HC2' := (O2.out.cell (p := ⟨b, m * 4 + 2, none⟩) hb (by simp)).trans HC2.out
  have hb := Nat.lt_of_lt_of_le hb O2.out.size
  clear HC0 HC1 HC2
  have HC0 := Lib.hid HC0'
  have HC1 := Lib.hid HC1'
  have HC2 := Lib.hid HC2'
  clear HC0' HC1' HC2'
  go_wp2_with (fail)
  refine wp_region_facts 15 [] (fr := ?frb) (tl := ?tlb) (fun i v wv => match i with
    | 0 => v = .slice (some ⟨b, 0, none⟩) (m + 1) c
    | 1 => v = .int .i64 ((m : Int) + 1)
    | 2 => v = .bool true
    | 3 => v = .bool true
    | 4 => v = .slice (some ⟨b, 0, none⟩) (m + 1) c
    | 5 => v = .slice (some ⟨b, 0, none⟩) (m + 1) c
    | 6 => v = .int .i64 ((m : Int) + 1)
    | 7 => v = .int .i64 (m : Int)
    | 8 => v = .pointer (some ⟨b, m * 4, none⟩)
    | 9 => v = .pointer (some ⟨b, m * 4, none⟩)
    | 10 => v = .agg #[.int .i64 l.1.1.1, .int .i64 l.1.1.2, .int .i64 l.1.2]
    | 11 => v = .agg #[.int .i64 s.1.1, .int .i64 s.1.2, .int .i64 s.2]
    | 12 => v = .int .i64 y
    | 13 => v = .bool true
    | 14 => v = .bool true
    | _ => True) (by kernel_rfl) (by kernel_rfl) (by kernel_rfl) (by kernel_rfl) (by decide) ?htlb ?hfrb ?stabb ?stepsb ?doneb
  case htlb => simp only [List.drop_succ_cons, List.drop_zero]; rfl
  case hfrb => intro vals; simp only [putAll, dstAt, Act.put, List.getElem?_toArray, List.getElem?_cons_zero, List.getElem?_cons_succ, Option.bind_some, List.setIfInBounds_toArray, List.set_cons_zero, List.set_cons_succ]; rfl
  case stabb =>
    intro i v wa wb h
    try dsimp only
    split <;> first | exact id | fail
  case stepsb =>
    refine ⟨?_, ?_, ?_, ?_, ?_, ?_, ?_, ?_, ?_, ?_, ?_, ?_, ?_, ?_, ?_, trivial⟩
    · intro vals wr hR hp K hK
      dsimp only at hK ⊢
      clear hp
      unfold RunsOp
      go_simp
      exact hK.out _ _ ⟨_, rfl, Only.refl _ _, rfl⟩
    · intro vals wr hR hp K hK
      dsimp only at hK ⊢
      obtain ⟨p0, -⟩ := hp
      replace p0 := p0 rfl
      dsimp only at p0
      rw [p0] at hK ⊢
      clear p0
      unfold RunsOp
      go_simp
      exact hK.out _ _ ⟨_, rfl, Only.refl _ _, rfl⟩
    · intro vals wr hR hp K hK
      dsimp only at hK ⊢
      obtain ⟨p1, -⟩ := hp
      replace p1 := p1 rfl
      dsimp only at p1
      rw [p1] at hK ⊢
      clear p1
      unfold RunsOp
      go_simp
      exact hK.out _ _ ⟨_, rfl, Only.refl _ _, rfl⟩
    · intro vals wr hR hp K hK
      dsimp only at hK ⊢
      obtain ⟨p2, -⟩ := hp
      replace p2 := p2 rfl
      dsimp only at p2
      rw [p2] at hK ⊢
      clear p2
      unfold RunsOp
      go_simp
      exact hK.out _ _ ⟨_, rfl, Only.refl _ _, rfl⟩
    · intro vals wr hR hp K hK
      dsimp only at hK ⊢
      obtain ⟨p3, -⟩ := hp
      replace p3 := p3 rfl
      dsimp only at p3
      rw [p3] at hK ⊢
      clear p3
      unfold RunsOp
      go_simp
      exact hK.out _ _ ⟨_, rfl, Only.refl _ _, rfl⟩
    · intro vals wr hR hp K hK
      dsimp only at hK ⊢
      obtain ⟨p3, -⟩ := hp
      replace p3 := p3 rfl
      dsimp only at p3
      rw [p3] at hK ⊢
      clear p3
      unfold RunsOp
      go_simp
      exact hK.out _ _ ⟨_, rfl, Only.refl _ _, rfl⟩
    · intro vals wr hR hp K hK
      dsimp only at hK ⊢
      obtain ⟨p5, p3, -⟩ := hp
      replace p5 := p5 rfl
      replace p3 := p3 rfl
      dsimp only at p5 p3
      rw [p5, p3] at hK ⊢
      clear p5 p3
      unfold RunsOp
      go_simp
      exact hK.out _ _ ⟨_, rfl, Only.refl _ _, rfl⟩
    · intro vals wr hR hp K hK
      dsimp only at hK ⊢
      obtain ⟨p6, p3, -⟩ := hp
      replace p6 := p6 rfl
      replace p3 := p3 rfl
      dsimp only at p6 p3
      rw [p6, p3] at hK ⊢
      clear p6 p3
      unfold RunsOp
      go_simp
      exact hK.out _ _ ⟨_, rfl, Only.refl _ _, rfl⟩
    · intro vals wr hR hp K hK
      dsimp only at hK ⊢
      obtain ⟨p4, p7, p3, -⟩ := hp
      replace p4 := p4 rfl
      replace p7 := p7 rfl
      replace p3 := p3 rfl
      dsimp only at p4 p7 p3
      rw [p4, p7, p3] at hK ⊢
      clear p4 p7 p3
      unfold RunsOp
      go_simp
      exact hK.out _ _ ⟨_, rfl, Only.refl _ _, rfl⟩
    · intro vals wr hR hp K hK
      dsimp only at hK ⊢
      obtain ⟨p8, p3, -⟩ := hp
      replace p8 := p8 rfl
      replace p3 := p3 rfl
      dsimp only at p8 p3
      rw [p8, p3] at hK ⊢
      clear p8 p3
      unfold RunsOp
      go_simp
      exact hK.out _ _ ⟨_, rfl, Only.refl _ _, rfl⟩
    · intro vals wr hR hp K hK
      dsimp only at hK ⊢
      obtain ⟨p9, p3, -⟩ := hp
      replace p9 := p9 rfl
      replace p3 := p3 rfl
      dsimp only at p9 p3
      rw [p9, p3] at hK ⊢
      clear p9 p3
      unfold RunsOp
      have c0 := (hR.cell (p := ⟨b, m * 4, none⟩) hb (by simp)).trans HC0.out
      have c1 := (hR.cell (p := ⟨b, m * 4 + 1, none⟩) hb (by simp)).trans HC1.out
      have c2 := (hR.cell (p := ⟨b, m * 4 + 2, none⟩) hb (by simp)).trans HC2.out
      go_simp
      exact hK.out _ _ ⟨_, rfl, Only.refl _ _, rfl⟩
    · intro vals wr hR hp K hK
      dsimp only at hK ⊢
      obtain ⟨p3, -⟩ := hp
      replace p3 := p3 rfl
      dsimp only at p3
      rw [p3] at hK ⊢
      clear p3
      unfold RunsOp
      have tbSB := hR.blk (by first | exact SB.out | exact Blk.drew SB.out) (by simp)
      obtain ⟨cSB0, cSB1, cSB2, clSB⟩ := tbSB.facts3
      clear tbSB
      go_simp
      exact hK.out _ _ ⟨_, rfl, Only.refl _ _, rfl⟩
    · intro vals wr hR hp K hK
      dsimp only at hK ⊢
      obtain ⟨p10, p11, p3, -, -⟩ := hp
      replace p10 := p10 rfl
      replace p11 := p11 rfl
      replace p3 := p3 rfl
      dsimp only at p10 p11 p3
      rw [p10, p11, p3] at hK ⊢
      clear p10 p11 p3
      unfold RunsOp
      go_simp
      refine (refstcmpr l.1 s ol os HY.out _).mono ?_
      rintro e w2 ⟨rfl, o2⟩
      exact hK.out _ _ ⟨_, rfl, o2, rfl⟩
    · intro vals wr hR hp K hK
      dsimp only at hK ⊢
      obtain ⟨p12, p3, -⟩ := hp
      replace p12 := p12 rfl
      replace p3 := p3 rfl
      dsimp only at p12 p3
      obtain p12 := p12
      rw [p12, p3] at hK ⊢
      clear p12 p3
      unfold RunsOp
      go_simp
      exact hK.out _ _ ⟨_, rfl, Only.refl _ _, rfl⟩
    · intro vals wr hR hp K hK
      dsimp only at hK ⊢
      obtain ⟨p3, p13, -⟩ := hp
      replace p3 := p3 rfl
      replace p13 := p13 rfl
      dsimp only at p3 p13
      rw [p3, p13] at hK ⊢
      clear p3 p13
      unfold RunsOp
      go_simp
      exact hK.out _ _ ⟨_, rfl, Only.refl _ _, rfl⟩
  intro vals w3 hR hF
  have f14 : vals 14 = .bool true := hF 14 (by decide)
  rw [f14]
  clear hF f14
  refine wpList_nil ?_
  have SBx := hR.blk (t := 26) (cs := #[.int .i64 s.1.1, .int .i64 s.1.2, .int .i64 s.2]) (g := w.heap.size) (by first | exact SB.out | exact Blk.drewN SB.out _ | exact Blk.drew SB.out) (by simp)
  have O3x : Only [] w w3 := (by first | exact Only.trans O2.out hR (by simp) | exact Only.trans (Only.drewN O2.out _) hR (by simp) | exact Only.trans (Only.drew O2.out) hR (by simp))
  obtain ⟨SBc0, SBc1, SBc2, SBl⟩ := SBx.facts3
  clear SB O2 hR
  have SB := Lib.hid SBx; have O3 := Lib.hid O3x
  clear SBx O3x
  go_wp2_with (fail)
  exact bodyPost_ret (v := .tuple #[.slice (some ⟨b, 0, none⟩) (m + 1) c, .int .i64 15]) (by simp [results, Try.results12, go_sem]) rfl ⟨rfl, O3.out⟩

set_option maxHeartbeats 4000000 in
theorem rput_full {s : St} {x room : Int} {b c m : Nat} {l : En} {w : World} (os : s.ok) (rs : stR s = true) (hn : s ≠ ((1, 0), 0)) (h20 : m ≤ 1048576) (hb : b < w.heap.size) (c0 : w.cell? ⟨b, m * 4, none⟩ = some (.int .i64 l.1.1.1)) (c1 : w.cell? ⟨b, m * 4 + 1, none⟩ = some (.int .i64 l.1.1.2)) (c2 : w.cell? ⟨b, m * 4 + 2, none⟩ = some (.int .i64 l.1.2)) (ol : l.1.ok) {y : Int} (hy : stC l.1 s = y) (hd : decide (0 ≤ y) = false) (hr : decide (room ≤ (m : Int) + 1) = true) :
    Calls Try.prog 12 #[.slice (some ⟨b, 0, none⟩) (m + 1) c, .int .i64 room, .agg #[.int .i64 s.1.1, .int .i64 s.1.2, .int .i64 s.2], .int .i64 x] w fun e w' => e = .returned (.tuple #[.slice (some ⟨b, 0, none⟩) (m + 1) c, .int .i64 14]) ∧ Only [] w w' := by
  have O0 := Lib.hid (Only.refl [] w)
  have hw64 : IntKind.i64.wrap (m : Int) = (m : Int) := by rw [IntKind.wrap_i64]; omega
  have hmm : (m : Int) < (m : Int) + 1 := by omega
  have HC0 := Lib.hid c0
  have HC1 := Lib.hid c1
  have HC2 := Lib.hid c2
  have HY := Lib.hid hy
  clear c0 c1 c2 hy
  have RS := Lib.hid rs
  have hE := eq_st26F hn
  clear rs hn
  go_enter Try.func12, Try.ntmps12
  have SB := Lib.hid ((by have h := Blk.new w 26 #[.int .i64 s.1.1, .int .i64 s.1.2, .int .i64 s.2]; simpa using h : Blk (w.alloc (.cells #[.int .i64 s.1.1, .int .i64 s.1.2, .int .i64 s.2] 26)) (w.heap.size) 26 #[.int .i64 s.1.1, .int .i64 s.1.2, .int .i64 s.2]) : Blk (w.alloc (.cells #[.int .i64 s.1.1, .int .i64 s.1.2, .int .i64 s.2] 26)) (w.heap.size) 26 #[.int .i64 s.1.1, .int .i64 s.1.2, .int .i64 s.2])
  have O1 := Lib.hid ((O0.out.alloc _) : Only [] w (w.alloc (.cells #[.int .i64 s.1.1, .int .i64 s.1.2, .int .i64 s.2] 26)))
  clear O0
  go_wp2_with (fail)
  refine wp_region_facts 8 [] (fr := ?fra) (tl := ?tla) (fun i v wv => match i with
    | 0 => v = .agg #[.int .i64 s.1.1, .int .i64 s.1.2, .int .i64 s.2]
    | 1 => v = .bool true
    | 2 => v = .bool false
    | 3 => v = .bool false
    | 4 => v = .agg #[.int .i64 s.1.1, .int .i64 s.1.2, .int .i64 s.2]
    | 5 => v = .agg #[.int .i64 1, .int .i64 0, .int .i64 0]
    | 6 => v = .bool false
    | 7 => v = .bool false
    | _ => True) (by kernel_rfl) (by kernel_rfl) (by kernel_rfl) (by kernel_rfl) (by decide) ?htla ?hfra ?staba ?stepsa ?donea
  case htla => simp only [List.drop_succ_cons, List.drop_zero]; rfl
  case hfra => intro vals; simp only [putAll, dstAt, Act.put, List.getElem?_toArray, List.getElem?_cons_zero, List.getElem?_cons_succ, Option.bind_some, List.setIfInBounds_toArray, List.set_cons_zero, List.set_cons_succ]; rfl
  case staba =>
    intro i v wa wb h
    try dsimp only
    split <;> first | exact id | fail
  case stepsa =>
    refine ⟨?_, ?_, ?_, ?_, ?_, ?_, ?_, ?_, trivial⟩
    · intro vals wr hR hp K hK
      dsimp only at hK ⊢
      clear hp
      unfold RunsOp
      have tbSB := hR.blk (by first | exact SB.out | exact Blk.drew SB.out) (by simp)
      obtain ⟨cSB0, cSB1, cSB2, clSB⟩ := tbSB.facts3
      clear tbSB
      go_simp
      exact hK.out _ _ ⟨_, rfl, Only.refl _ _, rfl⟩
    · intro vals wr hR hp K hK
      dsimp only at hK ⊢
      obtain ⟨p0, -⟩ := hp
      replace p0 := p0 rfl
      dsimp only at p0
      rw [p0] at hK ⊢
      clear p0
      unfold RunsOp
      go_simp
      refine (refstr os RS.out _).mono ?_
      rintro e w2 ⟨rfl, o2⟩
      exact hK.out _ _ ⟨_, rfl, o2, rfl⟩
    · intro vals wr hR hp K hK
      dsimp only at hK ⊢
      obtain ⟨p1, -⟩ := hp
      replace p1 := p1 rfl
      dsimp only at p1
      obtain p1 := p1
      rw [p1] at hK ⊢
      clear p1
      unfold RunsOp
      go_simp
      exact hK.out _ _ ⟨_, rfl, Only.refl _ _, rfl⟩
    · intro vals wr hR hp K hK
      dsimp only at hK ⊢
      obtain ⟨p2, -, -⟩ := hp
      replace p2 := p2 rfl
      dsimp only at p2
      rw [p2] at hK ⊢
      clear p2
      unfold RunsOp
      go_simp
      exact hK.out _ _ ⟨_, rfl, Only.refl _ _, rfl⟩
    · intro vals wr hR hp K hK
      dsimp only at hK ⊢
      obtain ⟨p3, -⟩ := hp
      replace p3 := p3 rfl
      dsimp only at p3
      rw [p3] at hK ⊢
      clear p3
      unfold RunsOp
      have tbSB := hR.blk (by first | exact SB.out | exact Blk.drew SB.out) (by simp)
      obtain ⟨cSB0, cSB1, cSB2, clSB⟩ := tbSB.facts3
      clear tbSB
      go_simp
      exact hK.out _ _ ⟨_, rfl, Only.refl _ _, rfl⟩
    · intro vals wr hR hp K hK
      dsimp only at hK ⊢
      obtain ⟨p3, -, -⟩ := hp
      replace p3 := p3 rfl
      dsimp only at p3
      rw [p3] at hK ⊢
      clear p3
      unfold RunsOp
      go_simp
      refine (refstnever_any _).mono ?_
      rintro e w2 ⟨rfl, o2⟩
      exact hK.out _ _ ⟨_, rfl, o2, rfl⟩
    · intro vals wr hR hp K hK
      dsimp only at hK ⊢
      obtain ⟨p4, p5, p3, -⟩ := hp
      replace p4 := p4 rfl
      replace p5 := p5 rfl
      replace p3 := p3 rfl
      dsimp only at p4 p5 p3
      obtain p5 := p5
      rw [p4, p5, p3] at hK ⊢
      clear p4 p5 p3
      unfold RunsOp
      go_simp
      exact hK.out _ _ ⟨_, rfl, Only.refl _ _, rfl⟩
    · intro vals wr hR hp K hK
      dsimp only at hK ⊢
      obtain ⟨p3, p6, -⟩ := hp
      replace p3 := p3 rfl
      replace p6 := p6 rfl
      dsimp only at p3 p6
      rw [p3, p6] at hK ⊢
      clear p3 p6
      unfold RunsOp
      go_simp
      exact hK.out _ _ ⟨_, rfl, Only.refl _ _, rfl⟩
  intro vals w2 hR hF
  have f7 : vals 7 = .bool false := hF 7 (by decide)
  rw [f7]
  clear hF f7
  refine wpList_nil ?_
  have SBx := hR.blk (t := 26) (cs := #[.int .i64 s.1.1, .int .i64 s.1.2, .int .i64 s.2]) (g := w.heap.size) (by first | exact SB.out | exact Blk.drewN SB.out _ | exact Blk.drew SB.out) (by simp)
  have O2x : Only [] w w2 := (by first | exact Only.trans O1.out hR (by simp) | exact Only.trans (Only.drewN O1.out _) hR (by simp) | exact Only.trans (Only.drew O1.out) hR (by simp))
  obtain ⟨SBc0, SBc1, SBc2, SBl⟩ := SBx.facts3
  clear SB O1 hR
  have SB := Lib.hid SBx; have O2 := Lib.hid O2x
  clear SBx O2x
  have HC0' := (O2.out.cell (p := ⟨b, m * 4, none⟩) hb (by simp)).trans HC0.out
  have HC1' := (O2.out.cell (p := ⟨b, m * 4 + 1, none⟩) hb (by simp)).trans HC1.out
  have HC2' := (O2.out.cell (p := ⟨b, m * 4 + 2, none⟩) hb (by simp)).trans HC2.out
  have hb := Nat.lt_of_lt_of_le hb O2.out.size
  clear HC0 HC1 HC2
  have HC0 := Lib.hid HC0'
  have HC1 := Lib.hid HC1'
  have HC2 := Lib.hid HC2'
  clear HC0' HC1' HC2'
  go_wp2_with (fail)
  refine wp_region_facts 15 [] (fr := ?frb) (tl := ?tlb) (fun i v wv => match i with
    | 0 => v = .slice (some ⟨b, 0, none⟩) (m + 1) c
    | 1 => v = .int .i64 ((m : Int) + 1)
    | 2 => v = .bool true
    | 3 => v = .bool true
    | 4 => v = .slice (some ⟨b, 0, none⟩) (m + 1) c
    | 5 => v = .slice (some ⟨b, 0, none⟩) (m + 1) c
    | 6 => v = .int .i64 ((m : Int) + 1)
    | 7 => v = .int .i64 (m : Int)
    | 8 => v = .pointer (some ⟨b, m * 4, none⟩)
    | 9 => v = .pointer (some ⟨b, m * 4, none⟩)
    | 10 => v = .agg #[.int .i64 l.1.1.1, .int .i64 l.1.1.2, .int .i64 l.1.2]
    | 11 => v = .agg #[.int .i64 s.1.1, .int .i64 s.1.2, .int .i64 s.2]
    | 12 => v = .int .i64 y
    | 13 => v = .bool false
    | 14 => v = .bool false
    | _ => True) (by kernel_rfl) (by kernel_rfl) (by kernel_rfl) (by kernel_rfl) (by decide) ?htlb ?hfrb ?stabb ?stepsb ?doneb
  case htlb => simp only [List.drop_succ_cons, List.drop_zero]; rfl
  case hfrb => intro vals; simp only [putAll, dstAt, Act.put, List.getElem?_toArray, List.getElem?_cons_zero, List.getElem?_cons_succ, Option.bind_some, List.setIfInBounds_toArray, List.set_cons_zero, List.set_cons_succ]; rfl
  case stabb =>
    intro i v wa wb h
    try dsimp only
    split <;> first | exact id | fail
  case stepsb =>
    refine ⟨?_, ?_, ?_, ?_, ?_, ?_, ?_, ?_, ?_, ?_, ?_, ?_, ?_, ?_, ?_, trivial⟩
    · intro vals wr hR hp K hK
      dsimp only at hK ⊢
      clear hp
      unfold RunsOp
      go_simp
      exact hK.out _ _ ⟨_, rfl, Only.refl _ _, rfl⟩
    · intro vals wr hR hp K hK
      dsimp only at hK ⊢
      obtain ⟨p0, -⟩ := hp
      replace p0 := p0 rfl
      dsimp only at p0
      rw [p0] at hK ⊢
      clear p0
      unfold RunsOp
      go_simp
      exact hK.out _ _ ⟨_, rfl, Only.refl _ _, rfl⟩
    · intro vals wr hR hp K hK
      dsimp only at hK ⊢
      obtain ⟨p1, -⟩ := hp
      replace p1 := p1 rfl
      dsimp only at p1
      rw [p1] at hK ⊢
      clear p1
      unfold RunsOp
      go_simp
      exact hK.out _ _ ⟨_, rfl, Only.refl _ _, rfl⟩
    · intro vals wr hR hp K hK
      dsimp only at hK ⊢
      obtain ⟨p2, -⟩ := hp
      replace p2 := p2 rfl
      dsimp only at p2
      rw [p2] at hK ⊢
      clear p2
      unfold RunsOp
      go_simp
      exact hK.out _ _ ⟨_, rfl, Only.refl _ _, rfl⟩
    · intro vals wr hR hp K hK
      dsimp only at hK ⊢
      obtain ⟨p3, -⟩ := hp
      replace p3 := p3 rfl
      dsimp only at p3
      rw [p3] at hK ⊢
      clear p3
      unfold RunsOp
      go_simp
      exact hK.out _ _ ⟨_, rfl, Only.refl _ _, rfl⟩
    · intro vals wr hR hp K hK
      dsimp only at hK ⊢
      obtain ⟨p3, -⟩ := hp
      replace p3 := p3 rfl
      dsimp only at p3
      rw [p3] at hK ⊢
      clear p3
      unfold RunsOp
      go_simp
      exact hK.out _ _ ⟨_, rfl, Only.refl _ _, rfl⟩
    · intro vals wr hR hp K hK
      dsimp only at hK ⊢
      obtain ⟨p5, p3, -⟩ := hp
      replace p5 := p5 rfl
      replace p3 := p3 rfl
      dsimp only at p5 p3
      rw [p5, p3] at hK ⊢
      clear p5 p3
      unfold RunsOp
      go_simp
      exact hK.out _ _ ⟨_, rfl, Only.refl _ _, rfl⟩
    · intro vals wr hR hp K hK
      dsimp only at hK ⊢
      obtain ⟨p6, p3, -⟩ := hp
      replace p6 := p6 rfl
      replace p3 := p3 rfl
      dsimp only at p6 p3
      rw [p6, p3] at hK ⊢
      clear p6 p3
      unfold RunsOp
      go_simp
      exact hK.out _ _ ⟨_, rfl, Only.refl _ _, rfl⟩
    · intro vals wr hR hp K hK
      dsimp only at hK ⊢
      obtain ⟨p4, p7, p3, -⟩ := hp
      replace p4 := p4 rfl
      replace p7 := p7 rfl
      replace p3 := p3 rfl
      dsimp only at p4 p7 p3
      rw [p4, p7, p3] at hK ⊢
      clear p4 p7 p3
      unfold RunsOp
      go_simp
      exact hK.out _ _ ⟨_, rfl, Only.refl _ _, rfl⟩
    · intro vals wr hR hp K hK
      dsimp only at hK ⊢
      obtain ⟨p8, p3, -⟩ := hp
      replace p8 := p8 rfl
      replace p3 := p3 rfl
      dsimp only at p8 p3
      rw [p8, p3] at hK ⊢
      clear p8 p3
      unfold RunsOp
      go_simp
      exact hK.out _ _ ⟨_, rfl, Only.refl _ _, rfl⟩
    · intro vals wr hR hp K hK
      dsimp only at hK ⊢
      obtain ⟨p9, p3, -⟩ := hp
      replace p9 := p9 rfl
      replace p3 := p3 rfl
      dsimp only at p9 p3
      rw [p9, p3] at hK ⊢
      clear p9 p3
      unfold RunsOp
      have c0 := (hR.cell (p := ⟨b, m * 4, none⟩) hb (by simp)).trans HC0.out
      have c1 := (hR.cell (p := ⟨b, m * 4 + 1, none⟩) hb (by simp)).trans HC1.out
      have c2 := (hR.cell (p := ⟨b, m * 4 + 2, none⟩) hb (by simp)).trans HC2.out
      go_simp
      exact hK.out _ _ ⟨_, rfl, Only.refl _ _, rfl⟩
    · intro vals wr hR hp K hK
      dsimp only at hK ⊢
      obtain ⟨p3, -⟩ := hp
      replace p3 := p3 rfl
      dsimp only at p3
      rw [p3] at hK ⊢
      clear p3
      unfold RunsOp
      have tbSB := hR.blk (by first | exact SB.out | exact Blk.drew SB.out) (by simp)
      obtain ⟨cSB0, cSB1, cSB2, clSB⟩ := tbSB.facts3
      clear tbSB
      go_simp
      exact hK.out _ _ ⟨_, rfl, Only.refl _ _, rfl⟩
    · intro vals wr hR hp K hK
      dsimp only at hK ⊢
      obtain ⟨p10, p11, p3, -, -⟩ := hp
      replace p10 := p10 rfl
      replace p11 := p11 rfl
      replace p3 := p3 rfl
      dsimp only at p10 p11 p3
      rw [p10, p11, p3] at hK ⊢
      clear p10 p11 p3
      unfold RunsOp
      go_simp
      refine (refstcmpr l.1 s ol os HY.out _).mono ?_
      rintro e w2 ⟨rfl, o2⟩
      exact hK.out _ _ ⟨_, rfl, o2, rfl⟩
    · intro vals wr hR hp K hK
      dsimp only at hK ⊢
      obtain ⟨p12, p3, -⟩ := hp
      replace p12 := p12 rfl
      replace p3 := p3 rfl
      dsimp only at p12 p3
      obtain p12 := p12
      rw [p12, p3] at hK ⊢
      clear p12 p3
      unfold RunsOp
      go_simp
      exact hK.out _ _ ⟨_, rfl, Only.refl _ _, rfl⟩
    · intro vals wr hR hp K hK
      dsimp only at hK ⊢
      obtain ⟨p3, p13, -⟩ := hp
      replace p3 := p3 rfl
      replace p13 := p13 rfl
      dsimp only at p3 p13
      rw [p3, p13] at hK ⊢
      clear p3 p13
      unfold RunsOp
      go_simp
      exact hK.out _ _ ⟨_, rfl, Only.refl _ _, rfl⟩
  intro vals w3 hR hF
  have f14 : vals 14 = .bool false := hF 14 (by decide)
  rw [f14]
  clear hF f14
  refine wpList_nil ?_
  have SBx := hR.blk (t := 26) (cs := #[.int .i64 s.1.1, .int .i64 s.1.2, .int .i64 s.2]) (g := w.heap.size) (by first | exact SB.out | exact Blk.drewN SB.out _ | exact Blk.drew SB.out) (by simp)
  have O3x : Only [] w w3 := (by first | exact Only.trans O2.out hR (by simp) | exact Only.trans (Only.drewN O2.out _) hR (by simp) | exact Only.trans (Only.drew O2.out) hR (by simp))
  obtain ⟨SBc0, SBc1, SBc2, SBl⟩ := SBx.facts3
  clear SB O2 hR
  have SB := Lib.hid SBx; have O3 := Lib.hid O3x
  clear SBx O3x
  go_wp2_with (fail)
  exact bodyPost_ret (v := .tuple #[.slice (some ⟨b, 0, none⟩) (m + 1) c, .int .i64 14]) (by simp [results, Try.results12, go_sem]) rfl ⟨rfl, O3.out⟩

set_option maxHeartbeats 4000000 in
theorem rput_ok1 {s : St} {x room : Int} {b c m : Nat} {l : En} {w : World} (os : s.ok) (rs : stR s = true) (hn : s ≠ ((1, 0), 0)) (h20 : m ≤ 1048576) (hb : b < w.heap.size) (c0 : w.cell? ⟨b, m * 4, none⟩ = some (.int .i64 l.1.1.1)) (c1 : w.cell? ⟨b, m * 4 + 1, none⟩ = some (.int .i64 l.1.1.2)) (c2 : w.cell? ⟨b, m * 4 + 2, none⟩ = some (.int .i64 l.1.2)) (ol : l.1.ok) {y : Int} (hy : stC l.1 s = y) {L : List En} (hLn : L.length = m + 1) (hR4 : Row4 w (some ⟨b, 0, none⟩) L) (hd : decide (0 ≤ y) = false) (hr : decide (room ≤ (m : Int) + 1) = false) :
    Calls Try.prog 12 #[.slice (some ⟨b, 0, none⟩) (m + 1) c, .int .i64 room, .agg #[.int .i64 s.1.1, .int .i64 s.1.2, .int .i64 s.2], .int .i64 x] w fun e w' => ∃ A' c', e = .returned (.tuple #[.slice (some A') ((m + 1) + 1) c', .int .i64 0]) ∧ w'.ownsRow w.heap.size 45 4 (.slice (some A') ((m + 1) + 1) c') ((m + 1) + 1) (flat4 (L ++ [(s, x)])) ∧ Only [] w w' := by
  have O0 := Lib.hid (Only.refl [] w)
  have HR4 := Lib.hid hR4
  clear hR4
  have hw64 : IntKind.i64.wrap (m : Int) = (m : Int) := by rw [IntKind.wrap_i64]; omega
  have hmm : (m : Int) < (m : Int) + 1 := by omega
  have HC0 := Lib.hid c0
  have HC1 := Lib.hid c1
  have HC2 := Lib.hid c2
  have HY := Lib.hid hy
  clear c0 c1 c2 hy
  have RS := Lib.hid rs
  have hE := eq_st26F hn
  clear rs hn
  go_enter Try.func12, Try.ntmps12
  have SB := Lib.hid ((by have h := Blk.new w 26 #[.int .i64 s.1.1, .int .i64 s.1.2, .int .i64 s.2]; simpa using h : Blk (w.alloc (.cells #[.int .i64 s.1.1, .int .i64 s.1.2, .int .i64 s.2] 26)) (w.heap.size) 26 #[.int .i64 s.1.1, .int .i64 s.1.2, .int .i64 s.2]) : Blk (w.alloc (.cells #[.int .i64 s.1.1, .int .i64 s.1.2, .int .i64 s.2] 26)) (w.heap.size) 26 #[.int .i64 s.1.1, .int .i64 s.1.2, .int .i64 s.2])
  have O1 := Lib.hid ((O0.out.alloc _) : Only [] w (w.alloc (.cells #[.int .i64 s.1.1, .int .i64 s.1.2, .int .i64 s.2] 26)))
  clear O0
  go_wp2_with (fail)
  refine wp_region_facts 8 [] (fr := ?fra) (tl := ?tla) (fun i v wv => match i with
    | 0 => v = .agg #[.int .i64 s.1.1, .int .i64 s.1.2, .int .i64 s.2]
    | 1 => v = .bool true
    | 2 => v = .bool false
    | 3 => v = .bool false
    | 4 => v = .agg #[.int .i64 s.1.1, .int .i64 s.1.2, .int .i64 s.2]
    | 5 => v = .agg #[.int .i64 1, .int .i64 0, .int .i64 0]
    | 6 => v = .bool false
    | 7 => v = .bool false
    | _ => True) (by kernel_rfl) (by kernel_rfl) (by kernel_rfl) (by kernel_rfl) (by decide) ?htla ?hfra ?staba ?stepsa ?donea
  case htla => simp only [List.drop_succ_cons, List.drop_zero]; rfl
  case hfra => intro vals; simp only [putAll, dstAt, Act.put, List.getElem?_toArray, List.getElem?_cons_zero, List.getElem?_cons_succ, Option.bind_some, List.setIfInBounds_toArray, List.set_cons_zero, List.set_cons_succ]; rfl
  case staba =>
    intro i v wa wb h
    try dsimp only
    split <;> first | exact id | fail
  case stepsa =>
    refine ⟨?_, ?_, ?_, ?_, ?_, ?_, ?_, ?_, trivial⟩
    · intro vals wr hR hp K hK
      dsimp only at hK ⊢
      clear hp
      unfold RunsOp
      have tbSB := hR.blk (by first | exact SB.out | exact Blk.drew SB.out) (by simp)
      obtain ⟨cSB0, cSB1, cSB2, clSB⟩ := tbSB.facts3
      clear tbSB
      go_simp
      exact hK.out _ _ ⟨_, rfl, Only.refl _ _, rfl⟩
    · intro vals wr hR hp K hK
      dsimp only at hK ⊢
      obtain ⟨p0, -⟩ := hp
      replace p0 := p0 rfl
      dsimp only at p0
      rw [p0] at hK ⊢
      clear p0
      unfold RunsOp
      go_simp
      refine (refstr os RS.out _).mono ?_
      rintro e w2 ⟨rfl, o2⟩
      exact hK.out _ _ ⟨_, rfl, o2, rfl⟩
    · intro vals wr hR hp K hK
      dsimp only at hK ⊢
      obtain ⟨p1, -⟩ := hp
      replace p1 := p1 rfl
      dsimp only at p1
      obtain p1 := p1
      rw [p1] at hK ⊢
      clear p1
      unfold RunsOp
      go_simp
      exact hK.out _ _ ⟨_, rfl, Only.refl _ _, rfl⟩
    · intro vals wr hR hp K hK
      dsimp only at hK ⊢
      obtain ⟨p2, -, -⟩ := hp
      replace p2 := p2 rfl
      dsimp only at p2
      rw [p2] at hK ⊢
      clear p2
      unfold RunsOp
      go_simp
      exact hK.out _ _ ⟨_, rfl, Only.refl _ _, rfl⟩
    · intro vals wr hR hp K hK
      dsimp only at hK ⊢
      obtain ⟨p3, -⟩ := hp
      replace p3 := p3 rfl
      dsimp only at p3
      rw [p3] at hK ⊢
      clear p3
      unfold RunsOp
      have tbSB := hR.blk (by first | exact SB.out | exact Blk.drew SB.out) (by simp)
      obtain ⟨cSB0, cSB1, cSB2, clSB⟩ := tbSB.facts3
      clear tbSB
      go_simp
      exact hK.out _ _ ⟨_, rfl, Only.refl _ _, rfl⟩
    · intro vals wr hR hp K hK
      dsimp only at hK ⊢
      obtain ⟨p3, -, -⟩ := hp
      replace p3 := p3 rfl
      dsimp only at p3
      rw [p3] at hK ⊢
      clear p3
      unfold RunsOp
      go_simp
      refine (refstnever_any _).mono ?_
      rintro e w2 ⟨rfl, o2⟩
      exact hK.out _ _ ⟨_, rfl, o2, rfl⟩
    · intro vals wr hR hp K hK
      dsimp only at hK ⊢
      obtain ⟨p4, p5, p3, -⟩ := hp
      replace p4 := p4 rfl
      replace p5 := p5 rfl
      replace p3 := p3 rfl
      dsimp only at p4 p5 p3
      obtain p5 := p5
      rw [p4, p5, p3] at hK ⊢
      clear p4 p5 p3
      unfold RunsOp
      go_simp
      exact hK.out _ _ ⟨_, rfl, Only.refl _ _, rfl⟩
    · intro vals wr hR hp K hK
      dsimp only at hK ⊢
      obtain ⟨p3, p6, -⟩ := hp
      replace p3 := p3 rfl
      replace p6 := p6 rfl
      dsimp only at p3 p6
      rw [p3, p6] at hK ⊢
      clear p3 p6
      unfold RunsOp
      go_simp
      exact hK.out _ _ ⟨_, rfl, Only.refl _ _, rfl⟩
  intro vals w2 hR hF
  have f7 : vals 7 = .bool false := hF 7 (by decide)
  rw [f7]
  clear hF f7
  refine wpList_nil ?_
  have SBx := hR.blk (t := 26) (cs := #[.int .i64 s.1.1, .int .i64 s.1.2, .int .i64 s.2]) (g := w.heap.size) (by first | exact SB.out | exact Blk.drewN SB.out _ | exact Blk.drew SB.out) (by simp)
  have O2x : Only [] w w2 := (by first | exact Only.trans O1.out hR (by simp) | exact Only.trans (Only.drewN O1.out _) hR (by simp) | exact Only.trans (Only.drew O1.out) hR (by simp))
  obtain ⟨SBc0, SBc1, SBc2, SBl⟩ := SBx.facts3
  clear SB O1 hR
  have SB := Lib.hid SBx; have O2 := Lib.hid O2x
  clear SBx O2x
  have HC0' := (O2.out.cell (p := ⟨b, m * 4, none⟩) hb (by simp)).trans HC0.out
  have HC1' := (O2.out.cell (p := ⟨b, m * 4 + 1, none⟩) hb (by simp)).trans HC1.out
  have HC2' := (O2.out.cell (p := ⟨b, m * 4 + 2, none⟩) hb (by simp)).trans HC2.out
  have hb := Nat.lt_of_lt_of_le hb O2.out.size
  clear HC0 HC1 HC2
  have HC0 := Lib.hid HC0'
  have HC1 := Lib.hid HC1'
  have HC2 := Lib.hid HC2'
  clear HC0' HC1' HC2'
  go_wp2_with (fail)
  refine wp_region_facts 15 [] (fr := ?frb) (tl := ?tlb) (fun i v wv => match i with
    | 0 => v = .slice (some ⟨b, 0, none⟩) (m + 1) c
    | 1 => v = .int .i64 ((m : Int) + 1)
    | 2 => v = .bool true
    | 3 => v = .bool true
    | 4 => v = .slice (some ⟨b, 0, none⟩) (m + 1) c
    | 5 => v = .slice (some ⟨b, 0, none⟩) (m + 1) c
    | 6 => v = .int .i64 ((m : Int) + 1)
    | 7 => v = .int .i64 (m : Int)
    | 8 => v = .pointer (some ⟨b, m * 4, none⟩)
    | 9 => v = .pointer (some ⟨b, m * 4, none⟩)
    | 10 => v = .agg #[.int .i64 l.1.1.1, .int .i64 l.1.1.2, .int .i64 l.1.2]
    | 11 => v = .agg #[.int .i64 s.1.1, .int .i64 s.1.2, .int .i64 s.2]
    | 12 => v = .int .i64 y
    | 13 => v = .bool false
    | 14 => v = .bool false
    | _ => True) (by kernel_rfl) (by kernel_rfl) (by kernel_rfl) (by kernel_rfl) (by decide) ?htlb ?hfrb ?stabb ?stepsb ?doneb
  case htlb => simp only [List.drop_succ_cons, List.drop_zero]; rfl
  case hfrb => intro vals; simp only [putAll, dstAt, Act.put, List.getElem?_toArray, List.getElem?_cons_zero, List.getElem?_cons_succ, Option.bind_some, List.setIfInBounds_toArray, List.set_cons_zero, List.set_cons_succ]; rfl
  case stabb =>
    intro i v wa wb h
    try dsimp only
    split <;> first | exact id | fail
  case stepsb =>
    refine ⟨?_, ?_, ?_, ?_, ?_, ?_, ?_, ?_, ?_, ?_, ?_, ?_, ?_, ?_, ?_, trivial⟩
    · intro vals wr hR hp K hK
      dsimp only at hK ⊢
      clear hp
      unfold RunsOp
      go_simp
      exact hK.out _ _ ⟨_, rfl, Only.refl _ _, rfl⟩
    · intro vals wr hR hp K hK
      dsimp only at hK ⊢
      obtain ⟨p0, -⟩ := hp
      replace p0 := p0 rfl
      dsimp only at p0
      rw [p0] at hK ⊢
      clear p0
      unfold RunsOp
      go_simp
      exact hK.out _ _ ⟨_, rfl, Only.refl _ _, rfl⟩
    · intro vals wr hR hp K hK
      dsimp only at hK ⊢
      obtain ⟨p1, -⟩ := hp
      replace p1 := p1 rfl
      dsimp only at p1
      rw [p1] at hK ⊢
      clear p1
      unfold RunsOp
      go_simp
      exact hK.out _ _ ⟨_, rfl, Only.refl _ _, rfl⟩
    · intro vals wr hR hp K hK
      dsimp only at hK ⊢
      obtain ⟨p2, -⟩ := hp
      replace p2 := p2 rfl
      dsimp only at p2
      rw [p2] at hK ⊢
      clear p2
      unfold RunsOp
      go_simp
      exact hK.out _ _ ⟨_, rfl, Only.refl _ _, rfl⟩
    · intro vals wr hR hp K hK
      dsimp only at hK ⊢
      obtain ⟨p3, -⟩ := hp
      replace p3 := p3 rfl
      dsimp only at p3
      rw [p3] at hK ⊢
      clear p3
      unfold RunsOp
      go_simp
      exact hK.out _ _ ⟨_, rfl, Only.refl _ _, rfl⟩
    · intro vals wr hR hp K hK
      dsimp only at hK ⊢
      obtain ⟨p3, -⟩ := hp
      replace p3 := p3 rfl
      dsimp only at p3
      rw [p3] at hK ⊢
      clear p3
      unfold RunsOp
      go_simp
      exact hK.out _ _ ⟨_, rfl, Only.refl _ _, rfl⟩
    · intro vals wr hR hp K hK
      dsimp only at hK ⊢
      obtain ⟨p5, p3, -⟩ := hp
      replace p5 := p5 rfl
      replace p3 := p3 rfl
      dsimp only at p5 p3
      rw [p5, p3] at hK ⊢
      clear p5 p3
      unfold RunsOp
      go_simp
      exact hK.out _ _ ⟨_, rfl, Only.refl _ _, rfl⟩
    · intro vals wr hR hp K hK
      dsimp only at hK ⊢
      obtain ⟨p6, p3, -⟩ := hp
      replace p6 := p6 rfl
      replace p3 := p3 rfl
      dsimp only at p6 p3
      rw [p6, p3] at hK ⊢
      clear p6 p3
      unfold RunsOp
      go_simp
      exact hK.out _ _ ⟨_, rfl, Only.refl _ _, rfl⟩
    · intro vals wr hR hp K hK
      dsimp only at hK ⊢
      obtain ⟨p4, p7, p3, -⟩ := hp
      replace p4 := p4 rfl
      replace p7 := p7 rfl
      replace p3 := p3 rfl
      dsimp only at p4 p7 p3
      rw [p4, p7, p3] at hK ⊢
      clear p4 p7 p3
      unfold RunsOp
      go_simp
      exact hK.out _ _ ⟨_, rfl, Only.refl _ _, rfl⟩
    · intro vals wr hR hp K hK
      dsimp only at hK ⊢
      obtain ⟨p8, p3, -⟩ := hp
      replace p8 := p8 rfl
      replace p3 := p3 rfl
      dsimp only at p8 p3
      rw [p8, p3] at hK ⊢
      clear p8 p3
      unfold RunsOp
      go_simp
      exact hK.out _ _ ⟨_, rfl, Only.refl _ _, rfl⟩
    · intro vals wr hR hp K hK
      dsimp only at hK ⊢
      obtain ⟨p9, p3, -⟩ := hp
      replace p9 := p9 rfl
      replace p3 := p3 rfl
      dsimp only at p9 p3
      rw [p9, p3] at hK ⊢
      clear p9 p3
      unfold RunsOp
      have c0 := (hR.cell (p := ⟨b, m * 4, none⟩) hb (by simp)).trans HC0.out
      have c1 := (hR.cell (p := ⟨b, m * 4 + 1, none⟩) hb (by simp)).trans HC1.out
      have c2 := (hR.cell (p := ⟨b, m * 4 + 2, none⟩) hb (by simp)).trans HC2.out
      go_simp
      exact hK.out _ _ ⟨_, rfl, Only.refl _ _, rfl⟩
    · intro vals wr hR hp K hK
      dsimp only at hK ⊢
      obtain ⟨p3, -⟩ := hp
      replace p3 := p3 rfl
      dsimp only at p3
      rw [p3] at hK ⊢
      clear p3
      unfold RunsOp
      have tbSB := hR.blk (by first | exact SB.out | exact Blk.drew SB.out) (by simp)
      obtain ⟨cSB0, cSB1, cSB2, clSB⟩ := tbSB.facts3
      clear tbSB
      go_simp
      exact hK.out _ _ ⟨_, rfl, Only.refl _ _, rfl⟩
    · intro vals wr hR hp K hK
      dsimp only at hK ⊢
      obtain ⟨p10, p11, p3, -, -⟩ := hp
      replace p10 := p10 rfl
      replace p11 := p11 rfl
      replace p3 := p3 rfl
      dsimp only at p10 p11 p3
      rw [p10, p11, p3] at hK ⊢
      clear p10 p11 p3
      unfold RunsOp
      go_simp
      refine (refstcmpr l.1 s ol os HY.out _).mono ?_
      rintro e w2 ⟨rfl, o2⟩
      exact hK.out _ _ ⟨_, rfl, o2, rfl⟩
    · intro vals wr hR hp K hK
      dsimp only at hK ⊢
      obtain ⟨p12, p3, -⟩ := hp
      replace p12 := p12 rfl
      replace p3 := p3 rfl
      dsimp only at p12 p3
      obtain p12 := p12
      rw [p12, p3] at hK ⊢
      clear p12 p3
      unfold RunsOp
      go_simp
      exact hK.out _ _ ⟨_, rfl, Only.refl _ _, rfl⟩
    · intro vals wr hR hp K hK
      dsimp only at hK ⊢
      obtain ⟨p3, p13, -⟩ := hp
      replace p3 := p3 rfl
      replace p13 := p13 rfl
      dsimp only at p3 p13
      rw [p3, p13] at hK ⊢
      clear p3 p13
      unfold RunsOp
      go_simp
      exact hK.out _ _ ⟨_, rfl, Only.refl _ _, rfl⟩
  intro vals w3 hR hF
  have f14 : vals 14 = .bool false := hF 14 (by decide)
  rw [f14]
  clear hF f14
  refine wpList_nil ?_
  have SBx := hR.blk (t := 26) (cs := #[.int .i64 s.1.1, .int .i64 s.1.2, .int .i64 s.2]) (g := w.heap.size) (by first | exact SB.out | exact Blk.drewN SB.out _ | exact Blk.drew SB.out) (by simp)
  have O3x : Only [] w w3 := (by first | exact Only.trans O2.out hR (by simp) | exact Only.trans (Only.drewN O2.out _) hR (by simp) | exact Only.trans (Only.drew O2.out) hR (by simp))
  obtain ⟨SBc0, SBc1, SBc2, SBl⟩ := SBx.facts3
  clear SB O2 hR
  have SB := Lib.hid SBx; have O3 := Lib.hid O3x
  clear SBx O3x
  have hs := O3.out.size
  obtain ⟨A1, c1', w5, hrun1, hw5, o5, hA5⟩ := run_append_row4 (P := Try.prog) 32 Try.underlying32 ref_info rfl (World.ownsRow_nil w3 w.heap.size 45 4) (L1 := []) (A := some ⟨b, 0, none⟩) (c := c) (HR4.out.only O3.out) hLn hs (by unfold maxLen; omega) (by omega)
  rw [Nat.zero_add, List.nil_append] at hw5
  simp only [Nat.zero_add] at hrun1
  have O5 := O3.out.trans o5 (fun x hx => by simp [Value.ownBlock] at hx)
  have s5 := o5.blk SB.out (by simp [Value.ownBlock])
  obtain ⟨A2, c2', w6, hrun2, hw6, o6, hA6⟩ := run_append4 (P := Try.prog) 45 32 Try.underlying32 ref_info rfl hw5 (s, x) O5.size (by unfold maxLen; omega) (by omega)
  obtain ⟨d0, d1, d2, dl⟩ := s5.facts3
  have O6 := O5.trans o6 (fun y hy => .inr ((hw5.lt y (by simpa using hy)).1))
  have HO6 := Lib.hid O6
  have HW6 := Lib.hid hw6
  clear O5 O6 hw5 hw6 o5 o6 hA5 hA6 s5
  go_wp2_with (at_builtin; first | (refine wpList_append_run hrun1 rfl _ _ rfl rfl rfl rfl ?_; clear hrun1) | (refine wpList_append_run hrun2 rfl _ _ rfl rfl rfl rfl ?_; clear hrun2))
  exact bodyPost_ret (v := .tuple #[.slice (some ⟨A2, 0, none⟩) ((m + 1) + 1) c2', .int .i64 0]) (by simp [results, Try.results12, go_sem]) rfl ⟨_, _, rfl, by rw [flat4_snoc]; exact HW6.out, HO6.out⟩

set_option maxHeartbeats 4000000 in
theorem rput_full0 {s : St} {x room : Int} {A : Option Addr} {c : Nat} {w : World} (os : s.ok) (rs : stR s = true) (hn : s ≠ ((1, 0), 0)) (hr : decide (room ≤ 0) = true) :
    Calls Try.prog 12 #[.slice A 0 c, .int .i64 room, .agg #[.int .i64 s.1.1, .int .i64 s.1.2, .int .i64 s.2], .int .i64 x] w fun e w' => e = .returned (.tuple #[.slice A 0 c, .int .i64 14]) ∧ Only [] w w' := by
  have O0 := Lib.hid (Only.refl [] w)
  have RS := Lib.hid rs
  have hE := eq_st26F hn
  clear rs hn
  go_enter Try.func12, Try.ntmps12
  have SB := Lib.hid ((by have h := Blk.new w 26 #[.int .i64 s.1.1, .int .i64 s.1.2, .int .i64 s.2]; simpa using h : Blk (w.alloc (.cells #[.int .i64 s.1.1, .int .i64 s.1.2, .int .i64 s.2] 26)) (w.heap.size) 26 #[.int .i64 s.1.1, .int .i64 s.1.2, .int .i64 s.2]) : Blk (w.alloc (.cells #[.int .i64 s.1.1, .int .i64 s.1.2, .int .i64 s.2] 26)) (w.heap.size) 26 #[.int .i64 s.1.1, .int .i64 s.1.2, .int .i64 s.2])
  have O1 := Lib.hid ((O0.out.alloc _) : Only [] w (w.alloc (.cells #[.int .i64 s.1.1, .int .i64 s.1.2, .int .i64 s.2] 26)))
  clear O0
  go_wp2_with (fail)
  refine wp_region_facts 8 [] (fr := ?fra) (tl := ?tla) (fun i v wv => match i with
    | 0 => v = .agg #[.int .i64 s.1.1, .int .i64 s.1.2, .int .i64 s.2]
    | 1 => v = .bool true
    | 2 => v = .bool false
    | 3 => v = .bool false
    | 4 => v = .agg #[.int .i64 s.1.1, .int .i64 s.1.2, .int .i64 s.2]
    | 5 => v = .agg #[.int .i64 1, .int .i64 0, .int .i64 0]
    | 6 => v = .bool false
    | 7 => v = .bool false
    | _ => True) (by kernel_rfl) (by kernel_rfl) (by kernel_rfl) (by kernel_rfl) (by decide) ?htla ?hfra ?staba ?stepsa ?donea
  case htla => simp only [List.drop_succ_cons, List.drop_zero]; rfl
  case hfra => intro vals; simp only [putAll, dstAt, Act.put, List.getElem?_toArray, List.getElem?_cons_zero, List.getElem?_cons_succ, Option.bind_some, List.setIfInBounds_toArray, List.set_cons_zero, List.set_cons_succ]; rfl
  case staba =>
    intro i v wa wb h
    try dsimp only
    split <;> first | exact id | fail
  case stepsa =>
    refine ⟨?_, ?_, ?_, ?_, ?_, ?_, ?_, ?_, trivial⟩
    · intro vals wr hR hp K hK
      dsimp only at hK ⊢
      clear hp
      unfold RunsOp
      have tbSB := hR.blk (by first | exact SB.out | exact Blk.drew SB.out) (by simp)
      obtain ⟨cSB0, cSB1, cSB2, clSB⟩ := tbSB.facts3
      clear tbSB
      go_simp
      exact hK.out _ _ ⟨_, rfl, Only.refl _ _, rfl⟩
    · intro vals wr hR hp K hK
      dsimp only at hK ⊢
      obtain ⟨p0, -⟩ := hp
      replace p0 := p0 rfl
      dsimp only at p0
      rw [p0] at hK ⊢
      clear p0
      unfold RunsOp
      go_simp
      refine (refstr os RS.out _).mono ?_
      rintro e w2 ⟨rfl, o2⟩
      exact hK.out _ _ ⟨_, rfl, o2, rfl⟩
    · intro vals wr hR hp K hK
      dsimp only at hK ⊢
      obtain ⟨p1, -⟩ := hp
      replace p1 := p1 rfl
      dsimp only at p1
      obtain p1 := p1
      rw [p1] at hK ⊢
      clear p1
      unfold RunsOp
      go_simp
      exact hK.out _ _ ⟨_, rfl, Only.refl _ _, rfl⟩
    · intro vals wr hR hp K hK
      dsimp only at hK ⊢
      obtain ⟨p2, -, -⟩ := hp
      replace p2 := p2 rfl
      dsimp only at p2
      rw [p2] at hK ⊢
      clear p2
      unfold RunsOp
      go_simp
      exact hK.out _ _ ⟨_, rfl, Only.refl _ _, rfl⟩
    · intro vals wr hR hp K hK
      dsimp only at hK ⊢
      obtain ⟨p3, -⟩ := hp
      replace p3 := p3 rfl
      dsimp only at p3
      rw [p3] at hK ⊢
      clear p3
      unfold RunsOp
      have tbSB := hR.blk (by first | exact SB.out | exact Blk.drew SB.out) (by simp)
      obtain ⟨cSB0, cSB1, cSB2, clSB⟩ := tbSB.facts3
      clear tbSB
      go_simp
      exact hK.out _ _ ⟨_, rfl, Only.refl _ _, rfl⟩
    · intro vals wr hR hp K hK
      dsimp only at hK ⊢
      obtain ⟨p3, -, -⟩ := hp
      replace p3 := p3 rfl
      dsimp only at p3
      rw [p3] at hK ⊢
      clear p3
      unfold RunsOp
      go_simp
      refine (refstnever_any _).mono ?_
      rintro e w2 ⟨rfl, o2⟩
      exact hK.out _ _ ⟨_, rfl, o2, rfl⟩
    · intro vals wr hR hp K hK
      dsimp only at hK ⊢
      obtain ⟨p4, p5, p3, -⟩ := hp
      replace p4 := p4 rfl
      replace p5 := p5 rfl
      replace p3 := p3 rfl
      dsimp only at p4 p5 p3
      obtain p5 := p5
      rw [p4, p5, p3] at hK ⊢
      clear p4 p5 p3
      unfold RunsOp
      go_simp
      exact hK.out _ _ ⟨_, rfl, Only.refl _ _, rfl⟩
    · intro vals wr hR hp K hK
      dsimp only at hK ⊢
      obtain ⟨p3, p6, -⟩ := hp
      replace p3 := p3 rfl
      replace p6 := p6 rfl
      dsimp only at p3 p6
      rw [p3, p6] at hK ⊢
      clear p3 p6
      unfold RunsOp
      go_simp
      exact hK.out _ _ ⟨_, rfl, Only.refl _ _, rfl⟩
  intro vals w2 hR hF
  have f7 : vals 7 = .bool false := hF 7 (by decide)
  rw [f7]
  clear hF f7
  refine wpList_nil ?_
  have SBx := hR.blk (t := 26) (cs := #[.int .i64 s.1.1, .int .i64 s.1.2, .int .i64 s.2]) (g := w.heap.size) (by first | exact SB.out | exact Blk.drewN SB.out _ | exact Blk.drew SB.out) (by simp)
  have O2x : Only [] w w2 := (by first | exact Only.trans O1.out hR (by simp) | exact Only.trans (Only.drewN O1.out _) hR (by simp) | exact Only.trans (Only.drew O1.out) hR (by simp))
  obtain ⟨SBc0, SBc1, SBc2, SBl⟩ := SBx.facts3
  clear SB O1 hR
  have SB := Lib.hid SBx; have O2 := Lib.hid O2x
  clear SBx O2x
  go_wp2_with (fail)
  refine wp_region_facts 15 [] (fr := ?frb) (tl := ?tlb) (fun i v wv => match i with
    | 0 => v = .slice A 0 c
    | 1 => v = .int .i64 0
    | 2 => v = .bool false
    | 3 => v = .bool false
    | 4 => v = undef
    | 5 => v = undef
    | 6 => v = undef
    | 7 => v = undef
    | 8 => v = undef
    | 9 => v = undef
    | 10 => v = undef
    | 11 => v = undef
    | 12 => v = undef
    | 13 => v = undef
    | 14 => v = .bool false
    | _ => True) (by kernel_rfl) (by kernel_rfl) (by kernel_rfl) (by kernel_rfl) (by decide) ?htlb ?hfrb ?stabb ?stepsb ?doneb
  case htlb => simp only [List.drop_succ_cons, List.drop_zero]; rfl
  case hfrb => intro vals; simp only [putAll, dstAt, Act.put, List.getElem?_toArray, List.getElem?_cons_zero, List.getElem?_cons_succ, Option.bind_some, List.setIfInBounds_toArray, List.set_cons_zero, List.set_cons_succ]; rfl
  case stabb =>
    intro i v wa wb h
    try dsimp only
    split <;> first | exact id | fail
  case stepsb =>
    refine ⟨?_, ?_, ?_, ?_, ?_, ?_, ?_, ?_, ?_, ?_, ?_, ?_, ?_, ?_, ?_, trivial⟩
    · intro vals wr hR hp K hK
      dsimp only at hK ⊢
      clear hp
      unfold RunsOp
      go_simp
      exact hK.out _ _ ⟨_, rfl, Only.refl _ _, rfl⟩
    · intro vals wr hR hp K hK
      dsimp only at hK ⊢
      obtain ⟨p0, -⟩ := hp
      replace p0 := p0 rfl
      dsimp only at p0
      rw [p0] at hK ⊢
      clear p0
      unfold RunsOp
      go_simp
      exact hK.out _ _ ⟨_, rfl, Only.refl _ _, rfl⟩
    · intro vals wr hR hp K hK
      dsimp only at hK ⊢
      obtain ⟨p1, -⟩ := hp
      replace p1 := p1 rfl
      dsimp only at p1
      rw [p1] at hK ⊢
      clear p1
      unfold RunsOp
      go_simp
      exact hK.out _ _ ⟨_, rfl, Only.refl _ _, rfl⟩
    · intro vals wr hR hp K hK
      dsimp only at hK ⊢
      obtain ⟨p2, -⟩ := hp
      replace p2 := p2 rfl
      dsimp only at p2
      rw [p2] at hK ⊢
      clear p2
      unfold RunsOp
      go_simp
      exact hK.out _ _ ⟨_, rfl, Only.refl _ _, rfl⟩
    · intro vals wr hR hp K hK
      dsimp only at hK ⊢
      obtain ⟨p3, -⟩ := hp
      replace p3 := p3 rfl
      dsimp only at p3
      rw [p3] at hK ⊢
      clear p3
      unfold RunsOp
      go_simp
      exact hK.out _ _ ⟨_, rfl, Only.refl _ _, rfl⟩
    · intro vals wr hR hp K hK
      dsimp only at hK ⊢
      obtain ⟨p3, -⟩ := hp
      replace p3 := p3 rfl
      dsimp only at p3
      rw [p3] at hK ⊢
      clear p3
      unfold RunsOp
      go_simp
      exact hK.out _ _ ⟨_, rfl, Only.refl _ _, rfl⟩
    · intro vals wr hR hp K hK
      dsimp only at hK ⊢
      obtain ⟨p5, p3, -⟩ := hp
      replace p5 := p5 rfl
      replace p3 := p3 rfl
      dsimp only at p5 p3
      rw [p5, p3] at hK ⊢
      clear p5 p3
      unfold RunsOp
      go_simp
      exact hK.out _ _ ⟨_, rfl, Only.refl _ _, rfl⟩
    · intro vals wr hR hp K hK
      dsimp only at hK ⊢
      obtain ⟨p6, p3, -⟩ := hp
      replace p6 := p6 rfl
      replace p3 := p3 rfl
      dsimp only at p6 p3
      rw [p6, p3] at hK ⊢
      clear p6 p3
      unfold RunsOp
      go_simp
      exact hK.out _ _ ⟨_, rfl, Only.refl _ _, rfl⟩
    · intro vals wr hR hp K hK
      dsimp only at hK ⊢
      obtain ⟨p4, p7, p3, -⟩ := hp
      replace p4 := p4 rfl
      replace p7 := p7 rfl
      replace p3 := p3 rfl
      dsimp only at p4 p7 p3
      rw [p4, p7, p3] at hK ⊢
      clear p4 p7 p3
      unfold RunsOp
      go_simp
      exact hK.out _ _ ⟨_, rfl, Only.refl _ _, rfl⟩
    · intro vals wr hR hp K hK
      dsimp only at hK ⊢
      obtain ⟨p8, p3, -⟩ := hp
      replace p8 := p8 rfl
      replace p3 := p3 rfl
      dsimp only at p8 p3
      rw [p8, p3] at hK ⊢
      clear p8 p3
      unfold RunsOp
      go_simp
      exact hK.out _ _ ⟨_, rfl, Only.refl _ _, rfl⟩
    · intro vals wr hR hp K hK
      dsimp only at hK ⊢
      obtain ⟨p9, p3, -⟩ := hp
      replace p9 := p9 rfl
      replace p3 := p3 rfl
      dsimp only at p9 p3
      rw [p9, p3] at hK ⊢
      clear p9 p3
      unfold RunsOp
      go_simp
      exact hK.out _ _ ⟨_, rfl, Only.refl _ _, rfl⟩
    · intro vals wr hR hp K hK
      dsimp only at hK ⊢
      obtain ⟨p3, -⟩ := hp
      replace p3 := p3 rfl
      dsimp only at p3
      rw [p3] at hK ⊢
      clear p3
      unfold RunsOp
      go_simp
      exact hK.out _ _ ⟨_, rfl, Only.refl _ _, rfl⟩
    · intro vals wr hR hp K hK
      dsimp only at hK ⊢
      obtain ⟨p10, p11, p3, -, -⟩ := hp
      replace p10 := p10 rfl
      replace p11 := p11 rfl
      replace p3 := p3 rfl
      dsimp only at p10 p11 p3
      rw [p10, p11, p3] at hK ⊢
      clear p10 p11 p3
      unfold RunsOp
      go_simp
      exact hK.out _ _ ⟨_, rfl, Only.refl _ _, rfl⟩
    · intro vals wr hR hp K hK
      dsimp only at hK ⊢
      obtain ⟨p12, p3, -⟩ := hp
      replace p12 := p12 rfl
      replace p3 := p3 rfl
      dsimp only at p12 p3
      rw [p12, p3] at hK ⊢
      clear p12 p3
      unfold RunsOp
      go_simp
      exact hK.out _ _ ⟨_, rfl, Only.refl _ _, rfl⟩
    · intro vals wr hR hp K hK
      dsimp only at hK ⊢
      obtain ⟨p3, p13, -⟩ := hp
      replace p3 := p3 rfl
      replace p13 := p13 rfl
      dsimp only at p3 p13
      rw [p3, p13] at hK ⊢
      clear p3 p13
      unfold RunsOp
      go_simp
      exact hK.out _ _ ⟨_, rfl, Only.refl _ _, rfl⟩
  intro vals w3 hR hF
  have f14 : vals 14 = .bool false := hF 14 (by decide)
  rw [f14]
  clear hF f14
  refine wpList_nil ?_
  have SBx := hR.blk (t := 26) (cs := #[.int .i64 s.1.1, .int .i64 s.1.2, .int .i64 s.2]) (g := w.heap.size) (by first | exact SB.out | exact Blk.drewN SB.out _ | exact Blk.drew SB.out) (by simp)
  have O3x : Only [] w w3 := (by first | exact Only.trans O2.out hR (by simp) | exact Only.trans (Only.drewN O2.out _) hR (by simp) | exact Only.trans (Only.drew O2.out) hR (by simp))
  obtain ⟨SBc0, SBc1, SBc2, SBl⟩ := SBx.facts3
  clear SB O2 hR
  have SB := Lib.hid SBx; have O3 := Lib.hid O3x
  clear SBx O3x
  go_wp2_with (fail)
  exact bodyPost_ret (v := .tuple #[.slice A 0 c, .int .i64 14]) (by simp [results, Try.results12, go_sem]) rfl ⟨rfl, O3.out⟩

set_option maxHeartbeats 4000000 in
theorem rput_ok0 {s : St} {x room : Int} {A : Option Addr} {c : Nat} {w : World} (os : s.ok) (rs : stR s = true) (hn : s ≠ ((1, 0), 0)) {L : List En} (hLn : L.length = 0) (hR4 : Row4 w A L) (hr : decide (room ≤ 0) = false) :
    Calls Try.prog 12 #[.slice A 0 c, .int .i64 room, .agg #[.int .i64 s.1.1, .int .i64 s.1.2, .int .i64 s.2], .int .i64 x] w fun e w' => ∃ A' c', e = .returned (.tuple #[.slice (some A') (0 + 1) c', .int .i64 0]) ∧ w'.ownsRow w.heap.size 45 4 (.slice (some A') (0 + 1) c') (0 + 1) (flat4 (L ++ [(s, x)])) ∧ Only [] w w' := by
  have O0 := Lib.hid (Only.refl [] w)
  have HR4 := Lib.hid hR4
  clear hR4
  have RS := Lib.hid rs
  have hE := eq_st26F hn
  clear rs hn
  go_enter Try.func12, Try.ntmps12
  have SB := Lib.hid ((by have h := Blk.new w 26 #[.int .i64 s.1.1, .int .i64 s.1.2, .int .i64 s.2]; simpa using h : Blk (w.alloc (.cells #[.int .i64 s.1.1, .int .i64 s.1.2, .int .i64 s.2] 26)) (w.heap.size) 26 #[.int .i64 s.1.1, .int .i64 s.1.2, .int .i64 s.2]) : Blk (w.alloc (.cells #[.int .i64 s.1.1, .int .i64 s.1.2, .int .i64 s.2] 26)) (w.heap.size) 26 #[.int .i64 s.1.1, .int .i64 s.1.2, .int .i64 s.2])
  have O1 := Lib.hid ((O0.out.alloc _) : Only [] w (w.alloc (.cells #[.int .i64 s.1.1, .int .i64 s.1.2, .int .i64 s.2] 26)))
  clear O0
  go_wp2_with (fail)
  refine wp_region_facts 8 [] (fr := ?fra) (tl := ?tla) (fun i v wv => match i with
    | 0 => v = .agg #[.int .i64 s.1.1, .int .i64 s.1.2, .int .i64 s.2]
    | 1 => v = .bool true
    | 2 => v = .bool false
    | 3 => v = .bool false
    | 4 => v = .agg #[.int .i64 s.1.1, .int .i64 s.1.2, .int .i64 s.2]
    | 5 => v = .agg #[.int .i64 1, .int .i64 0, .int .i64 0]
    | 6 => v = .bool false
    | 7 => v = .bool false
    | _ => True) (by kernel_rfl) (by kernel_rfl) (by kernel_rfl) (by kernel_rfl) (by decide) ?htla ?hfra ?staba ?stepsa ?donea
  case htla => simp only [List.drop_succ_cons, List.drop_zero]; rfl
  case hfra => intro vals; simp only [putAll, dstAt, Act.put, List.getElem?_toArray, List.getElem?_cons_zero, List.getElem?_cons_succ, Option.bind_some, List.setIfInBounds_toArray, List.set_cons_zero, List.set_cons_succ]; rfl
  case staba =>
    intro i v wa wb h
    try dsimp only
    split <;> first | exact id | fail
  case stepsa =>
    refine ⟨?_, ?_, ?_, ?_, ?_, ?_, ?_, ?_, trivial⟩
    · intro vals wr hR hp K hK
      dsimp only at hK ⊢
      clear hp
      unfold RunsOp
      have tbSB := hR.blk (by first | exact SB.out | exact Blk.drew SB.out) (by simp)
      obtain ⟨cSB0, cSB1, cSB2, clSB⟩ := tbSB.facts3
      clear tbSB
      go_simp
      exact hK.out _ _ ⟨_, rfl, Only.refl _ _, rfl⟩
    · intro vals wr hR hp K hK
      dsimp only at hK ⊢
      obtain ⟨p0, -⟩ := hp
      replace p0 := p0 rfl
      dsimp only at p0
      rw [p0] at hK ⊢
      clear p0
      unfold RunsOp
      go_simp
      refine (refstr os RS.out _).mono ?_
      rintro e w2 ⟨rfl, o2⟩
      exact hK.out _ _ ⟨_, rfl, o2, rfl⟩
    · intro vals wr hR hp K hK
      dsimp only at hK ⊢
      obtain ⟨p1, -⟩ := hp
      replace p1 := p1 rfl
      dsimp only at p1
      obtain p1 := p1
      rw [p1] at hK ⊢
      clear p1
      unfold RunsOp
      go_simp
      exact hK.out _ _ ⟨_, rfl, Only.refl _ _, rfl⟩
    · intro vals wr hR hp K hK
      dsimp only at hK ⊢
      obtain ⟨p2, -, -⟩ := hp
      replace p2 := p2 rfl
      dsimp only at p2
      rw [p2] at hK ⊢
      clear p2
      unfold RunsOp
      go_simp
      exact hK.out _ _ ⟨_, rfl, Only.refl _ _, rfl⟩
    · intro vals wr hR hp K hK
      dsimp only at hK ⊢
      obtain ⟨p3, -⟩ := hp
      replace p3 := p3 rfl
      dsimp only at p3
      rw [p3] at hK ⊢
      clear p3
      unfold RunsOp
      have tbSB := hR.blk (by first | exact SB.out | exact Blk.drew SB.out) (by simp)
      obtain ⟨cSB0, cSB1, cSB2, clSB⟩ := tbSB.facts3
      clear tbSB
      go_simp
      exact hK.out _ _ ⟨_, rfl, Only.refl _ _, rfl⟩
    · intro vals wr hR hp K hK
      dsimp only at hK ⊢
      obtain ⟨p3, -, -⟩ := hp
      replace p3 := p3 rfl
      dsimp only at p3
      rw [p3] at hK ⊢
      clear p3
      unfold RunsOp
      go_simp
      refine (refstnever_any _).mono ?_
      rintro e w2 ⟨rfl, o2⟩
      exact hK.out _ _ ⟨_, rfl, o2, rfl⟩
    · intro vals wr hR hp K hK
      dsimp only at hK ⊢
      obtain ⟨p4, p5, p3, -⟩ := hp
      replace p4 := p4 rfl
      replace p5 := p5 rfl
      replace p3 := p3 rfl
      dsimp only at p4 p5 p3
      obtain p5 := p5
      rw [p4, p5, p3] at hK ⊢
      clear p4 p5 p3
      unfold RunsOp
      go_simp
      exact hK.out _ _ ⟨_, rfl, Only.refl _ _, rfl⟩
    · intro vals wr hR hp K hK
      dsimp only at hK ⊢
      obtain ⟨p3, p6, -⟩ := hp
      replace p3 := p3 rfl
      replace p6 := p6 rfl
      dsimp only at p3 p6
      rw [p3, p6] at hK ⊢
      clear p3 p6
      unfold RunsOp
      go_simp
      exact hK.out _ _ ⟨_, rfl, Only.refl _ _, rfl⟩
  intro vals w2 hR hF
  have f7 : vals 7 = .bool false := hF 7 (by decide)
  rw [f7]
  clear hF f7
  refine wpList_nil ?_
  have SBx := hR.blk (t := 26) (cs := #[.int .i64 s.1.1, .int .i64 s.1.2, .int .i64 s.2]) (g := w.heap.size) (by first | exact SB.out | exact Blk.drewN SB.out _ | exact Blk.drew SB.out) (by simp)
  have O2x : Only [] w w2 := (by first | exact Only.trans O1.out hR (by simp) | exact Only.trans (Only.drewN O1.out _) hR (by simp) | exact Only.trans (Only.drew O1.out) hR (by simp))
  obtain ⟨SBc0, SBc1, SBc2, SBl⟩ := SBx.facts3
  clear SB O1 hR
  have SB := Lib.hid SBx; have O2 := Lib.hid O2x
  clear SBx O2x
  go_wp2_with (fail)
  refine wp_region_facts 15 [] (fr := ?frb) (tl := ?tlb) (fun i v wv => match i with
    | 0 => v = .slice A 0 c
    | 1 => v = .int .i64 0
    | 2 => v = .bool false
    | 3 => v = .bool false
    | 4 => v = undef
    | 5 => v = undef
    | 6 => v = undef
    | 7 => v = undef
    | 8 => v = undef
    | 9 => v = undef
    | 10 => v = undef
    | 11 => v = undef
    | 12 => v = undef
    | 13 => v = undef
    | 14 => v = .bool false
    | _ => True) (by kernel_rfl) (by kernel_rfl) (by kernel_rfl) (by kernel_rfl) (by decide) ?htlb ?hfrb ?stabb ?stepsb ?doneb
  case htlb => simp only [List.drop_succ_cons, List.drop_zero]; rfl
  case hfrb => intro vals; simp only [putAll, dstAt, Act.put, List.getElem?_toArray, List.getElem?_cons_zero, List.getElem?_cons_succ, Option.bind_some, List.setIfInBounds_toArray, List.set_cons_zero, List.set_cons_succ]; rfl
  case stabb =>
    intro i v wa wb h
    try dsimp only
    split <;> first | exact id | fail
  case stepsb =>
    refine ⟨?_, ?_, ?_, ?_, ?_, ?_, ?_, ?_, ?_, ?_, ?_, ?_, ?_, ?_, ?_, trivial⟩
    · intro vals wr hR hp K hK
      dsimp only at hK ⊢
      clear hp
      unfold RunsOp
      go_simp
      exact hK.out _ _ ⟨_, rfl, Only.refl _ _, rfl⟩
    · intro vals wr hR hp K hK
      dsimp only at hK ⊢
      obtain ⟨p0, -⟩ := hp
      replace p0 := p0 rfl
      dsimp only at p0
      rw [p0] at hK ⊢
      clear p0
      unfold RunsOp
      go_simp
      exact hK.out _ _ ⟨_, rfl, Only.refl _ _, rfl⟩
    · intro vals wr hR hp K hK
      dsimp only at hK ⊢
      obtain ⟨p1, -⟩ := hp
      replace p1 := p1 rfl
      dsimp only at p1
      rw [p1] at hK ⊢
      clear p1
      unfold RunsOp
      go_simp
      exact hK.out _ _ ⟨_, rfl, Only.refl _ _, rfl⟩
    · intro vals wr hR hp K hK
      dsimp only at hK ⊢
      obtain ⟨p2, -⟩ := hp
      replace p2 := p2 rfl
      dsimp only at p2
      rw [p2] at hK ⊢
      clear p2
      unfold RunsOp
      go_simp
      exact hK.out _ _ ⟨_, rfl, Only.refl _ _, rfl⟩
    · intro vals wr hR hp K hK
      dsimp only at hK ⊢
      obtain ⟨p3, -⟩ := hp
      replace p3 := p3 rfl
      dsimp only at p3
      rw [p3] at hK ⊢
      clear p3
      unfold RunsOp
      go_simp
      exact hK.out _ _ ⟨_, rfl, Only.refl _ _, rfl⟩
    · intro vals wr hR hp K hK
      dsimp only at hK ⊢
      obtain ⟨p3, -⟩ := hp
      replace p3 := p3 rfl
      dsimp only at p3
      rw [p3] at hK ⊢
      clear p3
      unfold RunsOp
      go_simp
      exact hK.out _ _ ⟨_, rfl, Only.refl _ _, rfl⟩
    · intro vals wr hR hp K hK
      dsimp only at hK ⊢
      obtain ⟨p5, p3, -⟩ := hp
      replace p5 := p5 rfl
      replace p3 := p3 rfl
      dsimp only at p5 p3
      rw [p5, p3] at hK ⊢
      clear p5 p3
      unfold RunsOp
      go_simp
      exact hK.out _ _ ⟨_, rfl, Only.refl _ _, rfl⟩
    · intro vals wr hR hp K hK
      dsimp only at hK ⊢
      obtain ⟨p6, p3, -⟩ := hp
      replace p6 := p6 rfl
      replace p3 := p3 rfl
      dsimp only at p6 p3
      rw [p6, p3] at hK ⊢
      clear p6 p3
      unfold RunsOp
      go_simp
      exact hK.out _ _ ⟨_, rfl, Only.refl _ _, rfl⟩
    · intro vals wr hR hp K hK
      dsimp only at hK ⊢
      obtain ⟨p4, p7, p3, -⟩ := hp
      replace p4 := p4 rfl
      replace p7 := p7 rfl
      replace p3 := p3 rfl
      dsimp only at p4 p7 p3
      rw [p4, p7, p3] at hK ⊢
      clear p4 p7 p3
      unfold RunsOp
      go_simp
      exact hK.out _ _ ⟨_, rfl, Only.refl _ _, rfl⟩
    · intro vals wr hR hp K hK
      dsimp only at hK ⊢
      obtain ⟨p8, p3, -⟩ := hp
      replace p8 := p8 rfl
      replace p3 := p3 rfl
      dsimp only at p8 p3
      rw [p8, p3] at hK ⊢
      clear p8 p3
      unfold RunsOp
      go_simp
      exact hK.out _ _ ⟨_, rfl, Only.refl _ _, rfl⟩
    · intro vals wr hR hp K hK
      dsimp only at hK ⊢
      obtain ⟨p9, p3, -⟩ := hp
      replace p9 := p9 rfl
      replace p3 := p3 rfl
      dsimp only at p9 p3
      rw [p9, p3] at hK ⊢
      clear p9 p3
      unfold RunsOp
      go_simp
      exact hK.out _ _ ⟨_, rfl, Only.refl _ _, rfl⟩
    · intro vals wr hR hp K hK
      dsimp only at hK ⊢
      obtain ⟨p3, -⟩ := hp
      replace p3 := p3 rfl
      dsimp only at p3
      rw [p3] at hK ⊢
      clear p3
      unfold RunsOp
      go_simp
      exact hK.out _ _ ⟨_, rfl, Only.refl _ _, rfl⟩
    · intro vals wr hR hp K hK
      dsimp only at hK ⊢
      obtain ⟨p10, p11, p3, -, -⟩ := hp
      replace p10 := p10 rfl
      replace p11 := p11 rfl
      replace p3 := p3 rfl
      dsimp only at p10 p11 p3
      rw [p10, p11, p3] at hK ⊢
      clear p10 p11 p3
      unfold RunsOp
      go_simp
      exact hK.out _ _ ⟨_, rfl, Only.refl _ _, rfl⟩
    · intro vals wr hR hp K hK
      dsimp only at hK ⊢
      obtain ⟨p12, p3, -⟩ := hp
      replace p12 := p12 rfl
      replace p3 := p3 rfl
      dsimp only at p12 p3
      rw [p12, p3] at hK ⊢
      clear p12 p3
      unfold RunsOp
      go_simp
      exact hK.out _ _ ⟨_, rfl, Only.refl _ _, rfl⟩
    · intro vals wr hR hp K hK
      dsimp only at hK ⊢
      obtain ⟨p3, p13, -⟩ := hp
      replace p3 := p3 rfl
      replace p13 := p13 rfl
      dsimp only at p3 p13
      rw [p3, p13] at hK ⊢
      clear p3 p13
      unfold RunsOp
      go_simp
      exact hK.out _ _ ⟨_, rfl, Only.refl _ _, rfl⟩
  intro vals w3 hR hF
  have f14 : vals 14 = .bool false := hF 14 (by decide)
  rw [f14]
  clear hF f14
  refine wpList_nil ?_
  have SBx := hR.blk (t := 26) (cs := #[.int .i64 s.1.1, .int .i64 s.1.2, .int .i64 s.2]) (g := w.heap.size) (by first | exact SB.out | exact Blk.drewN SB.out _ | exact Blk.drew SB.out) (by simp)
  have O3x : Only [] w w3 := (by first | exact Only.trans O2.out hR (by simp) | exact Only.trans (Only.drewN O2.out _) hR (by simp) | exact Only.trans (Only.drew O2.out) hR (by simp))
  obtain ⟨SBc0, SBc1, SBc2, SBl⟩ := SBx.facts3
  clear SB O2 hR
  have SB := Lib.hid SBx; have O3 := Lib.hid O3x
  clear SBx O3x
  have hs := O3.out.size
  obtain ⟨A1, c1', w5, hrun1, hw5, o5, hA5⟩ := run_append_row4 (P := Try.prog) 32 Try.underlying32 ref_info rfl (World.ownsRow_nil w3 w.heap.size 45 4) (L1 := []) (A := A) (c := c) (HR4.out.only O3.out) hLn hs (by unfold maxLen; omega) (by omega)
  rw [Nat.zero_add, List.nil_append] at hw5
  simp only [Nat.zero_add] at hrun1
  have O5 := O3.out.trans o5 (fun x hx => by simp [Value.ownBlock] at hx)
  have s5 := o5.blk SB.out (by simp [Value.ownBlock])
  obtain ⟨A2, c2', w6, hrun2, hw6, o6, hA6⟩ := run_append4 (P := Try.prog) 45 32 Try.underlying32 ref_info rfl hw5 (s, x) O5.size (by unfold maxLen; omega) (by omega)
  obtain ⟨d0, d1, d2, dl⟩ := s5.facts3
  have O6 := O5.trans o6 (fun y hy => .inr ((hw5.lt y (by simpa using hy)).1))
  have HO6 := Lib.hid O6
  have HW6 := Lib.hid hw6
  clear O5 O6 hw5 hw6 o5 o6 hA5 hA6 s5
  go_wp2_with (at_builtin; first | (refine wpList_append_run hrun1 rfl _ _ rfl rfl rfl rfl ?_; clear hrun1) | (refine wpList_append_run hrun2 rfl _ _ rfl rfl rfl rfl ?_; clear hrun2))
  exact bodyPost_ret (v := .tuple #[.slice (some ⟨A2, 0, none⟩) (0 + 1) c2', .int .i64 0]) (by simp [results, Try.results12, go_sem]) rfl ⟨_, _, rfl, by rw [flat4_snoc]; exact HW6.out, HO6.out⟩

theorem own_low {G B : Nat} {w : World} {e : TypeId} {size n : Nat} {v : Value} {xs : List Value} (h : w.ownsRow B e size v n xs) (hG : G ≤ B) : w.ownsRow G e size v n xs := by
  refine ⟨h.1, ?_⟩
  rcases h.2 with h2 | ⟨g, cap, cur, h2, h3, h4⟩
  · exact .inl h2
  · exact .inr ⟨g, cap, cur, h2, by omega, h4⟩
theorem rput_any {G : Nat} {w : World} {A : Option Addr} {n c : Nat} {L : List En} {room x : Int} {s : St} (hO : w.ownsRow G 45 4 (.slice A n c) n (flat4 L)) (hn : L.length = n) (hG : G ≤ w.heap.size) (hk : Trk L) (os : s.ok) (h20 : n ≤ 1000000) :
    Calls Try.prog 12 #[.slice A n c, .int .i64 room, .agg #[.int .i64 s.1.1, .int .i64 s.1.2, .int .i64 s.2], .int .i64 x] w fun e w' => ∃ A' c', e = .returned (.tuple #[.slice A' (putL L room s x).length c', .int .i64 (putE L room s)]) ∧ w'.ownsRow G 45 4 (.slice A' (putL L room s x).length c') (putL L room s x).length (flat4 (putL L room s x)) ∧ Only [] w w' := by
  have keepc : ∀ r, putE L room s = r → r ≠ 0 → (Calls Try.prog 12 #[.slice A n c, .int .i64 room, .agg #[.int .i64 s.1.1, .int .i64 s.1.2, .int .i64 s.2], .int .i64 x] w fun e w' => e = .returned (.tuple #[.slice A n c, .int .i64 r]) ∧ Only [] w w') →
      Calls Try.prog 12 #[.slice A n c, .int .i64 room, .agg #[.int .i64 s.1.1, .int .i64 s.1.2, .int .i64 s.2], .int .i64 x] w fun e w' => ∃ A' c', e = .returned (.tuple #[.slice A' (putL L room s x).length c', .int .i64 (putE L room s)]) ∧ w'.ownsRow G 45 4 (.slice A' (putL L room s x).length c') (putL L room s x).length (flat4 (putL L room s x)) ∧ Only [] w w' := fun r h1 h2 h =>
    h.mono fun e w' ⟨he, o⟩ => by
      have e2 : putL L room s x = L := by unfold putL; rw [if_neg (by rw [h1]; exact h2)]
      exact ⟨A, c, by rw [e2, h1, hn]; exact he, by rw [e2, hn]; exact ownsRow_only o hO (fun _ _ => by simp), o⟩
  have okc : putE L room s = 0 → (Calls Try.prog 12 #[.slice A n c, .int .i64 room, .agg #[.int .i64 s.1.1, .int .i64 s.1.2, .int .i64 s.2], .int .i64 x] w fun e w' => ∃ A' c', e = .returned (.tuple #[.slice (some A') (n + 1) c', .int .i64 0]) ∧ w'.ownsRow w.heap.size 45 4 (.slice (some A') (n + 1) c') (n + 1) (flat4 (L ++ [(s, x)])) ∧ Only [] w w') →
      Calls Try.prog 12 #[.slice A n c, .int .i64 room, .agg #[.int .i64 s.1.1, .int .i64 s.1.2, .int .i64 s.2], .int .i64 x] w fun e w' => ∃ A' c', e = .returned (.tuple #[.slice A' (putL L room s x).length c', .int .i64 (putE L room s)]) ∧ w'.ownsRow G 45 4 (.slice A' (putL L room s x).length c') (putL L room s x).length (flat4 (putL L room s x)) ∧ Only [] w w' := fun h1 h =>
    h.mono fun e w' ⟨A', c', he, ho, o⟩ => by
      have e2 : putL L room s x = L ++ [(s, x)] := by unfold putL; rw [if_pos h1]
      have e3 : (L ++ [(s, x)]).length = n + 1 := by simp [hn]
      exact ⟨some A', c', by rw [e2, h1, e3]; exact he, by rw [e2, e3]; exact own_low ho hG, o⟩
  have hR := own_row4 hn.symm hO
  cases hr : stR s with
  | false => exact keepc 1 (by unfold putE; rw [if_pos (.inl hr)]) (by decide) (rput_wrong os hr)
  | true =>
    by_cases hnv : s = ((1, 0), 0)
    · subst hnv
      exact keepc 1 (by unfold putE; rw [if_pos (.inr rfl)]) (by decide) rput_never
    have h0 : ¬ (stR s = false ∨ s = ((1, 0), 0)) := fun h => by rcases h with h | h; rw [hr] at h; cases h; exact hnv h
    rcases Nat.eq_zero_or_pos n with hz | hp
    · have hm : L = [] := List.eq_nil_of_length_eq_zero (by omega)
      have hlc : lastC L s < 0 := by rw [hm]; show (-1 : Int) < 0; decide
      have hl0 : (L.length : Int) = 0 := by omega
      subst hz
      by_cases hf : room ≤ 0
      · exact keepc 14 (by unfold putE; rw [if_neg h0, if_neg (by omega), if_pos (by omega)]) (by decide) (rput_full0 os hr hnv (by simpa using hf))
      · exact okc (by unfold putE; rw [if_neg h0, if_neg (by omega), if_neg (by omega)]) (rput_ok0 os hr hnv hn hR (by simpa using hf))
    · obtain ⟨m, rfl⟩ : ∃ m, n = m + 1 := ⟨n - 1, by omega⟩
      have hl : L[m]? = some L[m] := List.getElem?_eq_getElem (by omega)
      have hlc : lastC L s = stC L[m].1 s := by
        unfold lastC
        have e : L.length - 1 = m := by omega
        rw [List.getLast?_eq_getElem?, e, hl]
      have ol := (hk.ok L[m] (List.getElem_mem _)).1
      obtain ⟨b, rfl, hb, -, c0, c1, c2, -⟩ := own_cell hn.symm hO hl
      by_cases hy : stC L[m].1 s < 0
      · by_cases hf : room ≤ (m : Int) + 1
        · exact keepc 14 (by unfold putE; rw [if_neg h0, if_neg (by omega), if_pos (by omega)]) (by decide) (rput_full os hr hnv (by omega) hb c0 c1 c2 ol rfl (by simp; omega) (decide_eq_true hf))
        · exact okc (by unfold putE; rw [if_neg h0, if_neg (by omega), if_neg (by omega)]) (rput_ok1 os hr hnv (by omega) hb c0 c1 c2 ol rfl hn hR (by simp; omega) (decide_eq_false hf))
      · exact keepc 15 (by unfold putE; rw [if_neg h0, if_pos (by omega)]) (by decide) (rput_state os hr hnv (by omega) hb c0 c1 c2 ol rfl (by simp; omega))

end Go.Proofs.Ytcggeogpanackaa
