/- New, Len, Put. -/
import Derived.Test.YtcggeogpanackaaAhead
import Derived.Test.YtcggeogpanackaaFacts2
namespace Go.Proofs.Ytcggeogpanackaa
open Go.RowKit Go.Kx
set_option maxRecDepth 20000

theorem stR_never : stR ((1, 0), 0) = true := by decide
theorem ok_neverS : St.ok ((1, 0), 0) := ⟨ok_never, by unfold I64; simp⟩
theorem eq_st34 (a b c d e f : Int) (W : World) : (binOp .eql 34 (.agg #[.int .i64 a, .int .i64 b, .int .i64 c]) (.agg #[.int .i64 d, .int .i64 e, .int .i64 f])).run Try.prog W = .ok (.bool (decide (a = d ∧ b = e ∧ c = f))) W := by
  by_cases h : a = d <;> by_cases h2 : b = e <;> by_cases h3 : c = f <;> simp [go_sem, h, h2, h3]
theorem eq_st34T (W : World) : (binOp .eql 34 (.agg #[.int .i64 1, .int .i64 0, .int .i64 0]) (.agg #[.int .i64 1, .int .i64 0, .int .i64 0])).run Try.prog W = .ok (.bool true) W := by
  rw [eq_st34]; rfl
theorem eq_st34F {s : St} (h : s ≠ ((1, 0), 0)) (W : World) : (binOp .eql 34 (.agg #[.int .i64 s.1.1, .int .i64 s.1.2, .int .i64 s.2]) (.agg #[.int .i64 1, .int .i64 0, .int .i64 0])).run Try.prog W = .ok (.bool false) W := by
  rw [eq_st34, decide_eq_false]
  exact fun k => h (Prod.ext (Prod.ext k.1 k.2.1) k.2.2)

theorem new_bad {room : Int} (h : room < 1 ∨ 1048576 < room) (w : World) : Calls Try.prog 9 #[.int .i64 room] w fun e w' => e = .returned (.tuple #[.pointer none, .int .i64 1]) ∧ Only [] w w' := by
  by_cases h1 : room < 1
  · have hd : decide (room < 1) = true := by simpa using h1
    go_enter Try.func9, Try.ntmps9
    go_wp2_with (fail)
    exact bodyPost_ret (v := .tuple #[.pointer none, .int .i64 1]) (by simp [results, Try.results9, go_sem]) rfl ⟨rfl, Only.refl _ _⟩
  · have hd : decide (room < 1) = false := by simpa using h1
    have hd2 : decide (1048576 < room) = true := by simp; omega
    go_enter Try.func9, Try.ntmps9
    go_wp2_with (fail)
    exact bodyPost_ret (v := .tuple #[.pointer none, .int .i64 1]) (by simp [results, Try.results9, go_sem]) rfl ⟨rfl, Only.refl _ _⟩
theorem new_any {room : Int} (h1 : 1 ≤ room) (h2 : room ≤ 1048576) (w : World) {B : Nat} (hB : B ≤ w.heap.size) : Calls Try.prog 9 #[.int .i64 room] w fun e w' => e = .returned (.tuple #[.pointer (some ⟨w.heap.size, 0, none⟩), .int .i64 0]) ∧ TB B w' w.heap.size room [] none 0 ∧ Only [] w w' := by
  have hd : decide (room < 1) = false := by simp; omega
  have hd2 : decide (1048576 < room) = false := by simp; omega
  go_enter Try.func9, Try.ntmps9
  go_wp2_with (fail)
  exact bodyPost_ret (v := .tuple #[.pointer (some ⟨w.heap.size, 0, none⟩), .int .i64 0]) (by simp [results, Try.results9, go_sem]) rfl ⟨rfl, ⟨Blk.new _ _ _, World.ownsRow_nil _ _ _ _, hB⟩, (Only.refl _ _).alloc _⟩
theorem len_nil (w : World) : Calls Try.prog 20 #[.pointer none] w fun e w' => e = .returned (.int .i64 0) ∧ w' = w := by
  go_enter Try.func20, Try.ntmps20
  go_wp2_with (fail)
  go_ret
  exact ⟨rfl, rfl⟩
theorem len_any {B : Nat} {w : World} {g : Nat} {room : Int} {L : List En} {A : Option Addr} {c : Nat} (hT : TB B w g room L A c) : Calls Try.prog 20 #[.pointer (some ⟨g, 0, none⟩)] w fun e w' => e = .returned (.int .i64 L.length) ∧ w' = w := by
  obtain ⟨g0, g1, gl⟩ := hT.blk.facts2
  go_enter Try.func20, Try.ntmps20
  go_wp2_with (fail)
  go_ret
  exact ⟨rfl, rfl⟩

theorem put_fin {B : Nat} {w w4 w5 : World} {g : Nat} {room : Int} {L : List En} {A : Option Addr} {c gg cap n : Nat} {s : St} {x : Int} (hn : n = L.length) (hT : TB B w g room L A c) (O : Only [] w w4)
    (bg5 : Blk w5 g 66 #[.int .i64 room, .slice A n c]) (how : w5.ownsRow B 71 4 (.slice (some ⟨gg, 0, none⟩) (n + 1) cap) (n + 1) (flat4 L ++ cells4 (s, x))) (o5 : Only (Value.ownBlock (.slice A n c)).toList w4.drew w5)
    (hg5 : Value.ownBlock (.slice A n c) = some gg ∨ w4.drew.heap.size ≤ gg) (hne : (Value.slice (some ⟨gg, 0, none⟩) (n + 1) cap).ownBlock ≠ some g) :
    ∃ p c', TB B (w5.setCell ⟨g, 1, none⟩ (.slice (some ⟨gg, 0, none⟩) (n + 1) cap)) g room (L ++ [(s, x)]) (some p) c' ∧ Only (g :: A.toList.map (·.block)) w (w5.setCell ⟨g, 1, none⟩ (.slice (some ⟨gg, 0, none⟩) (n + 1) cap)) ∧ (A = some p ∨ w.heap.size ≤ p.block) := by
  subst hn
  have e : (L ++ [(s, x)]).length = L.length + 1 := by simp
  have hs := O.size
  refine ⟨⟨gg, 0, none⟩, cap, ⟨?_, ?_, hT.base⟩, ?_, ?_⟩
  · rw [e]; exact bg5.set_ 1 _
  · rw [e, flat4_snoc]
    exact ownsRow_only (only_setCell _ _ _) how (fun g' h k => hne (by simp at k; rw [h, k]))
  · refine Only.setCell ?_ (.inl (by simp)) _
    refine (O.drew.mono (fun _ h => by simp at h)).trans (o5.mono fun y hy => .inl ?_) (fun _ h => .inl h)
    cases A with
    | none => simp [Value.ownBlock] at hy
    | some p => simp [Value.ownBlock] at hy; simp [hy]
  · rcases hg5 with h | h
    · left
      cases A with
      | none => simp [Value.ownBlock] at h
      | some p =>
        simp [Value.ownBlock] at h
        rcases hT.own.2 with ⟨h1, _⟩ | ⟨g', _, _, h1, _⟩
        · cases h1
        · injection h1 with h1 _ _
          injection h1 with h1
          rw [h1] at h ⊢
          simp at h
          rw [h]
    · right
      have h' : w4.heap.size ≤ gg := h
      simp; omega

set_option maxHeartbeats 4000000 in
theorem put_nil {s : St} {x : Int}   (w : World) :
    Calls Try.prog 10 #[.pointer none, .agg #[.int .i64 s.1.1, .int .i64 s.1.2, .int .i64 s.2], .int .i64 x] w fun e w' => e = .returned (.int .i64 1) ∧ Only [] w w' := by
  have O0 := Lib.hid (Only.refl [] w)
  go_enter Try.func10, Try.ntmps10
  have B0 := Lib.hid ((by have h := Blk.new w 34 #[.int .i64 s.1.1, .int .i64 s.1.2, .int .i64 s.2]; simpa using h : Blk (w.alloc (.cells #[.int .i64 s.1.1, .int .i64 s.1.2, .int .i64 s.2] 34)) (w.heap.size) 34 #[.int .i64 s.1.1, .int .i64 s.1.2, .int .i64 s.2]) : Blk (w.alloc (.cells #[.int .i64 s.1.1, .int .i64 s.1.2, .int .i64 s.2] 34)) (w.heap.size) 34 #[.int .i64 s.1.1, .int .i64 s.1.2, .int .i64 s.2])
  have O1 := Lib.hid ((O0.out.alloc _) : Only [] w (w.alloc (.cells #[.int .i64 s.1.1, .int .i64 s.1.2, .int .i64 s.2] 34)))
  clear O0
  go_wp2_with (fail)
  refine wp_region_facts 12 [] (fr := ?fr) (tl := ?tl) (fun i v wv => match i with
    | 0 => v = .pointer none
    | 1 => v = .bool true
    | 2 => v = .bool true
    | 3 => v = undef
    | 4 => v = undef
    | 5 => v = undef
    | 6 => v = .bool true
    | 7 => v = .bool true
    | 8 => v = undef
    | 9 => v = undef
    | 10 => v = undef
    | 11 => v = .bool true
    | _ => True) (by kernel_rfl) (by kernel_rfl) (by kernel_rfl) (by kernel_rfl) (by decide) ?htl ?hfr ?stab ?steps ?done
  case htl => simp only [List.drop_succ_cons, List.drop_zero]; rfl
  case hfr => intro vals; simp only [putAll, dstAt, Act.put, List.getElem?_toArray, List.getElem?_cons_zero, List.getElem?_cons_succ, Option.bind_some, List.setIfInBounds_toArray, List.set_cons_zero, List.set_cons_succ]; rfl
  case stab =>
    intro i v wa wb h
    try dsimp only
    split <;> first | exact id | fail
  case steps =>
    refine ⟨?_, ?_, ?_, ?_, ?_, ?_, ?_, ?_, ?_, ?_, ?_, ?_, trivial⟩
    · intro vals wr hR hp K hK
      dsimp only at hK ⊢
      clear hp
      unfold RunsOp
      go_simp
      exact hK.out _ _ ⟨_, rfl, Only.refl _ _, rfl⟩
    · intro vals wr hR hp K hK
      dsimp only at hK ⊢
      obtain ⟨p0, -⟩ := hp
      replace p0 := p0 rfl
      dsimp only at p0
      rw [p0] at hK ⊢
      clear p0
      unfold RunsOp
      go_simp
      exact hK.out _ _ ⟨_, rfl, Only.refl _ _, rfl⟩
    · intro vals wr hR hp K hK
      dsimp only at hK ⊢
      obtain ⟨p1, -⟩ := hp
      replace p1 := p1 rfl
      dsimp only at p1
      rw [p1] at hK ⊢
      clear p1
      unfold RunsOp
      go_simp
      exact hK.out _ _ ⟨_, rfl, Only.refl _ _, rfl⟩
    · intro vals wr hR hp K hK
      dsimp only at hK ⊢
      obtain ⟨p2, -⟩ := hp
      replace p2 := p2 rfl
      dsimp only at p2
      rw [p2] at hK ⊢
      clear p2
      unfold RunsOp
      go_simp
      exact hK.out _ _ ⟨_, rfl, Only.refl _ _, rfl⟩
    · intro vals wr hR hp K hK
      dsimp only at hK ⊢
      obtain ⟨p3, p2, -, -⟩ := hp
      replace p3 := p3 rfl
      replace p2 := p2 rfl
      dsimp only at p3 p2
      rw [p3, p2] at hK ⊢
      clear p3 p2
      unfold RunsOp
      go_simp
      exact hK.out _ _ ⟨_, rfl, Only.refl _ _, rfl⟩
    · intro vals wr hR hp K hK
      dsimp only at hK ⊢
      obtain ⟨p4, p2, -⟩ := hp
      replace p4 := p4 rfl
      replace p2 := p2 rfl
      dsimp only at p4 p2
      rw [p4, p2] at hK ⊢
      clear p4 p2
      unfold RunsOp
      go_simp
      exact hK.out _ _ ⟨_, rfl, Only.refl _ _, rfl⟩
    · intro vals wr hR hp K hK
      dsimp only at hK ⊢
      obtain ⟨p2, p5, -⟩ := hp
      replace p2 := p2 rfl
      replace p5 := p5 rfl
      dsimp only at p2 p5
      rw [p2, p5] at hK ⊢
      clear p2 p5
      unfold RunsOp
      go_simp
      exact hK.out _ _ ⟨_, rfl, Only.refl _ _, rfl⟩
    · intro vals wr hR hp K hK
      dsimp only at hK ⊢
      obtain ⟨p6, -, -⟩ := hp
      replace p6 := p6 rfl
      dsimp only at p6
      rw [p6] at hK ⊢
      clear p6
      unfold RunsOp
      go_simp
      exact hK.out _ _ ⟨_, rfl, Only.refl _ _, rfl⟩
    · intro vals wr hR hp K hK
      dsimp only at hK ⊢
      obtain ⟨p7, -⟩ := hp
      replace p7 := p7 rfl
      dsimp only at p7
      rw [p7] at hK ⊢
      clear p7
      unfold RunsOp
      go_simp
      exact hK.out _ _ ⟨_, rfl, Only.refl _ _, rfl⟩
    · intro vals wr hR hp K hK
      dsimp only at hK ⊢
      obtain ⟨p7, -, -⟩ := hp
      replace p7 := p7 rfl
      dsimp only at p7
      rw [p7] at hK ⊢
      clear p7
      unfold RunsOp
      go_simp
      exact hK.out _ _ ⟨_, rfl, Only.refl _ _, rfl⟩
    · intro vals wr hR hp K hK
      dsimp only at hK ⊢
      obtain ⟨p8, p9, p7, -⟩ := hp
      replace p8 := p8 rfl
      replace p9 := p9 rfl
      replace p7 := p7 rfl
      dsimp only at p8 p9 p7
      rw [p8, p9, p7] at hK ⊢
      clear p8 p9 p7
      unfold RunsOp
      go_simp
      exact hK.out _ _ ⟨_, rfl, Only.refl _ _, rfl⟩
    · intro vals wr hR hp K hK
      dsimp only at hK ⊢
      obtain ⟨p7, p10, -⟩ := hp
      replace p7 := p7 rfl
      replace p10 := p10 rfl
      dsimp only at p7 p10
      rw [p7, p10] at hK ⊢
      clear p7 p10
      unfold RunsOp
      go_simp
      exact hK.out _ _ ⟨_, rfl, Only.refl _ _, rfl⟩
  intro vals w2 hR hF
  have f11 : vals 11 = .bool true := hF 11 (by decide)
  rw [f11]
  clear hF f11
  refine wpList_nil ?_
  have B0x := hR.blk (t := 34) (cs := #[.int .i64 s.1.1, .int .i64 s.1.2, .int .i64 s.2]) (g := w.heap.size) (by first | exact B0.out | exact Blk.drewN B0.out _ | exact Blk.drew B0.out) (by simp)
  have O2x : Only [] w w2 := (by first | exact Only.trans O1.out hR (by simp) | exact Only.trans (Only.drewN O1.out _) hR (by simp) | exact Only.trans (Only.drew O1.out) hR (by simp))
  obtain ⟨B0c0, B0c1, B0c2, B0l⟩ := B0x.facts3
  clear B0 O1 hR
  have B0 := Lib.hid B0x; have O2 := Lib.hid O2x
  clear B0x O2x
  go_wp2_with (fail)
  go_ret
  exact ⟨rfl, by first | exact O2.out | exact Only.drewN O2.out _ | exact Only.drew O2.out⟩

set_option maxHeartbeats 4000000 in
theorem put_wrong {s : St} {x : Int} {g : Nat} (os : s.ok) (rs : stR s = false) (w : World) :
    Calls Try.prog 10 #[.pointer (some ⟨g, 0, none⟩), .agg #[.int .i64 s.1.1, .int .i64 s.1.2, .int .i64 s.2], .int .i64 x] w fun e w' => e = .returned (.int .i64 1) ∧ Only [] w w' := by
  have O0 := Lib.hid (Only.refl [] w)
  have RS := Lib.hid rs
  clear rs
  go_enter Try.func10, Try.ntmps10
  have B0 := Lib.hid ((by have h := Blk.new w 34 #[.int .i64 s.1.1, .int .i64 s.1.2, .int .i64 s.2]; simpa using h : Blk (w.alloc (.cells #[.int .i64 s.1.1, .int .i64 s.1.2, .int .i64 s.2] 34)) (w.heap.size) 34 #[.int .i64 s.1.1, .int .i64 s.1.2, .int .i64 s.2]) : Blk (w.alloc (.cells #[.int .i64 s.1.1, .int .i64 s.1.2, .int .i64 s.2] 34)) (w.heap.size) 34 #[.int .i64 s.1.1, .int .i64 s.1.2, .int .i64 s.2])
  have O1 := Lib.hid ((O0.out.alloc _) : Only [] w (w.alloc (.cells #[.int .i64 s.1.1, .int .i64 s.1.2, .int .i64 s.2] 34)))
  clear O0
  go_wp2_with (fail)
  refine wp_region_facts 12 [] (fr := ?fr) (tl := ?tl) (fun i v wv => match i with
    | 0 => v = .pointer (some ⟨g, 0, none⟩)
    | 1 => v = .bool false
    | 2 => v = .bool false
    | 3 => v = .agg #[.int .i64 s.1.1, .int .i64 s.1.2, .int .i64 s.2]
    | 4 => v = .bool false
    | 5 => v = .bool true
    | 6 => v = .bool true
    | 7 => v = .bool true
    | 8 => v = undef
    | 9 => v = undef
    | 10 => v = undef
    | 11 => v = .bool true
    | _ => True) (by kernel_rfl) (by kernel_rfl) (by kernel_rfl) (by kernel_rfl) (by decide) ?htl ?hfr ?stab ?steps ?done
  case htl => simp only [List.drop_succ_cons, List.drop_zero]; rfl
  case hfr => intro vals; simp only [putAll, dstAt, Act.put, List.getElem?_toArray, List.getElem?_cons_zero, List.getElem?_cons_succ, Option.bind_some, List.setIfInBounds_toArray, List.set_cons_zero, List.set_cons_succ]; rfl
  case stab =>
    intro i v wa wb h
    try dsimp only
    split <;> first | exact id | fail
  case steps =>
    refine ⟨?_, ?_, ?_, ?_, ?_, ?_, ?_, ?_, ?_, ?_, ?_, ?_, trivial⟩
    · intro vals wr hR hp K hK
      dsimp only at hK ⊢
      clear hp
      unfold RunsOp
      go_simp
      exact hK.out _ _ ⟨_, rfl, Only.refl _ _, rfl⟩
    · intro vals wr hR hp K hK
      dsimp only at hK ⊢
      obtain ⟨p0, -⟩ := hp
      replace p0 := p0 rfl
      dsimp only at p0
      rw [p0] at hK ⊢
      clear p0
      unfold RunsOp
      go_simp
      exact hK.out _ _ ⟨_, rfl, Only.refl _ _, rfl⟩
    · intro vals wr hR hp K hK
      dsimp only at hK ⊢
      obtain ⟨p1, -⟩ := hp
      replace p1 := p1 rfl
      dsimp only at p1
      rw [p1] at hK ⊢
      clear p1
      unfold RunsOp
      go_simp
      exact hK.out _ _ ⟨_, rfl, Only.refl _ _, rfl⟩
    · intro vals wr hR hp K hK
      dsimp only at hK ⊢
      obtain ⟨p2, -⟩ := hp
      replace p2 := p2 rfl
      dsimp only at p2
      rw [p2] at hK ⊢
      clear p2
      unfold RunsOp
      have tbB0 := hR.blk (by first | exact B0.out | exact Blk.drew B0.out) (by simp)
      obtain ⟨cB00, cB01, cB02, clB0⟩ := tbB0.facts3
      clear tbB0
      go_simp
      exact hK.out _ _ ⟨_, rfl, Only.refl _ _, rfl⟩
    · intro vals wr hR hp K hK
      dsimp only at hK ⊢
      obtain ⟨p3, p2, -, -⟩ := hp
      replace p3 := p3 rfl
      replace p2 := p2 rfl
      dsimp only at p3 p2
      rw [p3, p2] at hK ⊢
      clear p3 p2
      unfold RunsOp
      go_simp
      refine (strightr os RS.out _).mono ?_
      rintro e w2 ⟨rfl, o2⟩
      exact hK.out _ _ ⟨_, rfl, o2, rfl⟩
    · intro vals wr hR hp K hK
      dsimp only at hK ⊢
      obtain ⟨p4, p2, -⟩ := hp
      replace p4 := p4 rfl
      replace p2 := p2 rfl
      dsimp only at p4 p2
      obtain p4 := p4
      rw [p4, p2] at hK ⊢
      clear p4 p2
      unfold RunsOp
      go_simp
      exact hK.out _ _ ⟨_, rfl, Only.refl _ _, rfl⟩
    · intro vals wr hR hp K hK
      dsimp only at hK ⊢
      obtain ⟨p2, p5, -⟩ := hp
      replace p2 := p2 rfl
      replace p5 := p5 rfl
      dsimp only at p2 p5
      rw [p2, p5] at hK ⊢
      clear p2 p5
      unfold RunsOp
      go_simp
      exact hK.out _ _ ⟨_, rfl, Only.refl _ _, rfl⟩
    · intro vals wr hR hp K hK
      dsimp only at hK ⊢
      obtain ⟨p6, -, -⟩ := hp
      replace p6 := p6 rfl
      dsimp only at p6
      rw [p6] at hK ⊢
      clear p6
      unfold RunsOp
      go_simp
      exact hK.out _ _ ⟨_, rfl, Only.refl _ _, rfl⟩
    · intro vals wr hR hp K hK
      dsimp only at hK ⊢
      obtain ⟨p7, -⟩ := hp
      replace p7 := p7 rfl
      dsimp only at p7
      rw [p7] at hK ⊢
      clear p7
      unfold RunsOp
      go_simp
      exact hK.out _ _ ⟨_, rfl, Only.refl _ _, rfl⟩
    · intro vals wr hR hp K hK
      dsimp only at hK ⊢
      obtain ⟨p7, -, -⟩ := hp
      replace p7 := p7 rfl
      dsimp only at p7
      rw [p7] at hK ⊢
      clear p7
      unfold RunsOp
      go_simp
      exact hK.out _ _ ⟨_, rfl, Only.refl _ _, rfl⟩
    · intro vals wr hR hp K hK
      dsimp only at hK ⊢
      obtain ⟨p8, p9, p7, -⟩ := hp
      replace p8 := p8 rfl
      replace p9 := p9 rfl
      replace p7 := p7 rfl
      dsimp only at p8 p9 p7
      rw [p8, p9, p7] at hK ⊢
      clear p8 p9 p7
      unfold RunsOp
      go_simp
      exact hK.out _ _ ⟨_, rfl, Only.refl _ _, rfl⟩
    · intro vals wr hR hp K hK
      dsimp only at hK ⊢
      obtain ⟨p7, p10, -⟩ := hp
      replace p7 := p7 rfl
      replace p10 := p10 rfl
      dsimp only at p7 p10
      rw [p7, p10] at hK ⊢
      clear p7 p10
      unfold RunsOp
      go_simp
      exact hK.out _ _ ⟨_, rfl, Only.refl _ _, rfl⟩
  intro vals w2 hR hF
  have f11 : vals 11 = .bool true := hF 11 (by decide)
  rw [f11]
  clear hF f11
  refine wpList_nil ?_
  have B0x := hR.blk (t := 34) (cs := #[.int .i64 s.1.1, .int .i64 s.1.2, .int .i64 s.2]) (g := w.heap.size) (by first | exact B0.out | exact Blk.drewN B0.out _ | exact Blk.drew B0.out) (by simp)
  have O2x : Only [] w w2 := (by first | exact Only.trans O1.out hR (by simp) | exact Only.trans (Only.drewN O1.out _) hR (by simp) | exact Only.trans (Only.drew O1.out) hR (by simp))
  obtain ⟨B0c0, B0c1, B0c2, B0l⟩ := B0x.facts3
  clear B0 O1 hR
  have B0 := Lib.hid B0x; have O2 := Lib.hid O2x
  clear B0x O2x
  go_wp2_with (fail)
  go_ret
  exact ⟨rfl, by first | exact O2.out | exact Only.drewN O2.out _ | exact Only.drew O2.out⟩

set_option maxHeartbeats 4000000 in
theorem put_never {s : St} {x : Int} {g : Nat}  (w : World) :
    Calls Try.prog 10 #[.pointer (some ⟨g, 0, none⟩), .agg #[.int .i64 1, .int .i64 0, .int .i64 0], .int .i64 x] w fun e w' => e = .returned (.int .i64 1) ∧ Only [] w w' := by
  have O0 := Lib.hid (Only.refl [] w)
  have hE := eq_st34T
  go_enter Try.func10, Try.ntmps10
  have B0 := Lib.hid ((by have h := Blk.new w 34 #[.int .i64 1, .int .i64 0, .int .i64 0]; simpa using h : Blk (w.alloc (.cells #[.int .i64 1, .int .i64 0, .int .i64 0] 34)) (w.heap.size) 34 #[.int .i64 1, .int .i64 0, .int .i64 0]) : Blk (w.alloc (.cells #[.int .i64 1, .int .i64 0, .int .i64 0] 34)) (w.heap.size) 34 #[.int .i64 1, .int .i64 0, .int .i64 0])
  have O1 := Lib.hid ((O0.out.alloc _) : Only [] w (w.alloc (.cells #[.int .i64 1, .int .i64 0, .int .i64 0] 34)))
  clear O0
  go_wp2_with (fail)
  refine wp_region_facts 12 [] (fr := ?fr) (tl := ?tl) (fun i v wv => match i with
    | 0 => v = .pointer (some ⟨g, 0, none⟩)
    | 1 => v = .bool false
    | 2 => v = .bool false
    | 3 => v = .agg #[.int .i64 1, .int .i64 0, .int .i64 0]
    | 4 => v = .bool true
    | 5 => v = .bool false
    | 6 => v = .bool false
    | 7 => v = .bool false
    | 8 => v = .agg #[.int .i64 1, .int .i64 0, .int .i64 0]
    | 9 => v = .agg #[.int .i64 1, .int .i64 0, .int .i64 0]
    | 10 => v = .bool true
    | 11 => v = .bool true
    | _ => True) (by kernel_rfl) (by kernel_rfl) (by kernel_rfl) (by kernel_rfl) (by decide) ?htl ?hfr ?stab ?steps ?done
  case htl => simp only [List.drop_succ_cons, List.drop_zero]; rfl
  case hfr => intro vals; simp only [putAll, dstAt, Act.put, List.getElem?_toArray, List.getElem?_cons_zero, List.getElem?_cons_succ, Option.bind_some, List.setIfInBounds_toArray, List.set_cons_zero, List.set_cons_succ]; rfl
  case stab =>
    intro i v wa wb h
    try dsimp only
    split <;> first | exact id | fail
  case steps =>
    refine ⟨?_, ?_, ?_, ?_, ?_, ?_, ?_, ?_, ?_, ?_, ?_, ?_, trivial⟩
    · intro vals wr hR hp K hK
      dsimp only at hK ⊢
      clear hp
      unfold RunsOp
      go_simp
      exact hK.out _ _ ⟨_, rfl, Only.refl _ _, rfl⟩
    · intro vals wr hR hp K hK
      dsimp only at hK ⊢
      obtain ⟨p0, -⟩ := hp
      replace p0 := p0 rfl
      dsimp only at p0
      rw [p0] at hK ⊢
      clear p0
      unfold RunsOp
      go_simp
      exact hK.out _ _ ⟨_, rfl, Only.refl _ _, rfl⟩
    · intro vals wr hR hp K hK
      dsimp only at hK ⊢
      obtain ⟨p1, -⟩ := hp
      replace p1 := p1 rfl
      dsimp only at p1
      rw [p1] at hK ⊢
      clear p1
      unfold RunsOp
      go_simp
      exact hK.out _ _ ⟨_, rfl, Only.refl _ _, rfl⟩
    · intro vals wr hR hp K hK
      dsimp only at hK ⊢
      obtain ⟨p2, -⟩ := hp
      replace p2 := p2 rfl
      dsimp only at p2
      rw [p2] at hK ⊢
      clear p2
      unfold RunsOp
      have tbB0 := hR.blk (by first | exact B0.out | exact Blk.drew B0.out) (by simp)
      obtain ⟨cB00, cB01, cB02, clB0⟩ := tbB0.facts3
      clear tbB0
      go_simp
      exact hK.out _ _ ⟨_, rfl, Only.refl _ _, rfl⟩
    · intro vals wr hR hp K hK
      dsimp only at hK ⊢
      obtain ⟨p3, p2, -, -⟩ := hp
      replace p3 := p3 rfl
      replace p2 := p2 rfl
      dsimp only at p3 p2
      rw [p3, p2] at hK ⊢
      clear p3 p2
      unfold RunsOp
      go_simp
      refine (strightr (s := ((1, 0), 0)) ok_neverS stR_never _).mono ?_
      rintro e w2 ⟨rfl, o2⟩
      exact hK.out _ _ ⟨_, rfl, o2, rfl⟩
    · intro vals wr hR hp K hK
      dsimp only at hK ⊢
      obtain ⟨p4, p2, -⟩ := hp
      replace p4 := p4 rfl
      replace p2 := p2 rfl
      dsimp only at p4 p2
      obtain p4 := p4
      rw [p4, p2] at hK ⊢
      clear p4 p2
      unfold RunsOp
      go_simp
      exact hK.out _ _ ⟨_, rfl, Only.refl _ _, rfl⟩
    · intro vals wr hR hp K hK
      dsimp only at hK ⊢
      obtain ⟨p2, p5, -⟩ := hp
      replace p2 := p2 rfl
      replace p5 := p5 rfl
      dsimp only at p2 p5
      rw [p2, p5] at hK ⊢
      clear p2 p5
      unfold RunsOp
      go_simp
      exact hK.out _ _ ⟨_, rfl, Only.refl _ _, rfl⟩
    · intro vals wr hR hp K hK
      dsimp only at hK ⊢
      obtain ⟨p6, -, -⟩ := hp
      replace p6 := p6 rfl
      dsimp only at p6
      rw [p6] at hK ⊢
      clear p6
      unfold RunsOp
      go_simp
      exact hK.out _ _ ⟨_, rfl, Only.refl _ _, rfl⟩
    · intro vals wr hR hp K hK
      dsimp only at hK ⊢
      obtain ⟨p7, -⟩ := hp
      replace p7 := p7 rfl
      dsimp only at p7
      rw [p7] at hK ⊢
      clear p7
      unfold RunsOp
      have tbB0 := hR.blk (by first | exact B0.out | exact Blk.drew B0.out) (by simp)
      obtain ⟨cB00, cB01, cB02, clB0⟩ := tbB0.facts3
      clear tbB0
      go_simp
      exact hK.out _ _ ⟨_, rfl, Only.refl _ _, rfl⟩
    · intro vals wr hR hp K hK
      dsimp only at hK ⊢
      obtain ⟨p7, -, -⟩ := hp
      replace p7 := p7 rfl
      dsimp only at p7
      rw [p7] at hK ⊢
      clear p7
      unfold RunsOp
      go_simp
      refine (stnever_any _).mono ?_
      rintro e w2 ⟨rfl, o2⟩
      exact hK.out _ _ ⟨_, rfl, o2, rfl⟩
    · intro vals wr hR hp K hK
      dsimp only at hK ⊢
      obtain ⟨p8, p9, p7, -⟩ := hp
      replace p8 := p8 rfl
      replace p9 := p9 rfl
      replace p7 := p7 rfl
      dsimp only at p8 p9 p7
      obtain p9 := p9
      rw [p8, p9, p7] at hK ⊢
      clear p8 p9 p7
      unfold RunsOp
      go_simp
      exact hK.out _ _ ⟨_, rfl, Only.refl _ _, rfl⟩
    · intro vals wr hR hp K hK
      dsimp only at hK ⊢
      obtain ⟨p7, p10, -⟩ := hp
      replace p7 := p7 rfl
      replace p10 := p10 rfl
      dsimp only at p7 p10
      rw [p7, p10] at hK ⊢
      clear p7 p10
      unfold RunsOp
      go_simp
      exact hK.out _ _ ⟨_, rfl, Only.refl _ _, rfl⟩
  intro vals w2 hR hF
  have f11 : vals 11 = .bool true := hF 11 (by decide)
  rw [f11]
  clear hF f11
  refine wpList_nil ?_
  have B0x := hR.blk (t := 34) (cs := #[.int .i64 1, .int .i64 0, .int .i64 0]) (g := w.heap.size) (by first | exact B0.out | exact Blk.drewN B0.out _ | exact Blk.drew B0.out) (by simp)
  have O2x : Only [] w w2 := (by first | exact Only.trans O1.out hR (by simp) | exact Only.trans (Only.drewN O1.out _) hR (by simp) | exact Only.trans (Only.drew O1.out) hR (by simp))
  obtain ⟨B0c0, B0c1, B0c2, B0l⟩ := B0x.facts3
  clear B0 O1 hR
  have B0 := Lib.hid B0x; have O2 := Lib.hid O2x
  clear B0x O2x
  go_wp2_with (fail)
  go_ret
  exact ⟨rfl, by first | exact O2.out | exact Only.drewN O2.out _ | exact Only.drew O2.out⟩

set_option maxHeartbeats 4000000 in
theorem put_state {s : St} {x : Int} {B : Nat} {g : Nat} {room : Int} {L : List En} {A : Option Addr} {c : Nat} {m : Nat} {l : En} {w : World} (hT : TB B w g room L A c) (os : s.ok) (rs : stR s = true) (hn : s ≠ ((1, 0), 0)) (hm : L.length = m + 1) (h20 : m ≤ 1048576) (hl : L[m]? = some l) (ol : l.1.ok) (hy : decide (stC l.1 s < 0) = false) :
    Calls Try.prog 10 #[.pointer (some ⟨g, 0, none⟩), .agg #[.int .i64 s.1.1, .int .i64 s.1.2, .int .i64 s.2], .int .i64 x] w fun e w' => e = .returned (.int .i64 15) ∧ Only [] w w' := by
  have O0 := Lib.hid (Only.refl [] w)
  have hw64 : IntKind.i64.wrap (m : Int) = (m : Int) := by rw [IntKind.wrap_i64]; omega
  have hmm : (m : Int) < (m : Int) + 1 := by omega
  have hw := hT.own
  have hbk := hT.blk
  rw [hm] at hw hbk
  obtain ⟨b, rfl, hb, -, c0, c1, c2, c3⟩ := own_cell hm.symm hw hl
  have BG := Lib.hid hbk
  have HC0 := Lib.hid c0
  have HC1 := Lib.hid c1
  have HC2 := Lib.hid c2
  have HY := Lib.hid hy
  clear c0 c1 c2 c3 hw hbk hy
  clear hT
  have RS := Lib.hid rs
  have hE := eq_st34F hn
  clear rs hn
  go_enter Try.func10, Try.ntmps10
  have BGy : Blk (w.alloc (.cells #[.int .i64 s.1.1, .int .i64 s.1.2, .int .i64 s.2] 34)) (g) 66 #[.int .i64 room, .slice (some ⟨b, 0, none⟩) (m + 1) c] := (BG.out.alloc _)
  clear BG
  have BG := Lib.hid BGy
  clear BGy
  have B1 := Lib.hid ((by have h := Blk.new w 34 #[.int .i64 s.1.1, .int .i64 s.1.2, .int .i64 s.2]; simpa using h : Blk (w.alloc (.cells #[.int .i64 s.1.1, .int .i64 s.1.2, .int .i64 s.2] 34)) (w.heap.size) 34 #[.int .i64 s.1.1, .int .i64 s.1.2, .int .i64 s.2]) : Blk (w.alloc (.cells #[.int .i64 s.1.1, .int .i64 s.1.2, .int .i64 s.2] 34)) (w.heap.size) 34 #[.int .i64 s.1.1, .int .i64 s.1.2, .int .i64 s.2])
  have O1 := Lib.hid ((O0.out.alloc _) : Only [] w (w.alloc (.cells #[.int .i64 s.1.1, .int .i64 s.1.2, .int .i64 s.2] 34)))
  clear O0
  go_wp2_with (fail)
  refine wp_region_facts 12 [] (fr := ?fra) (tl := ?tla) (fun i v wv => match i with
    | 0 => v = .pointer (some ⟨g, 0, none⟩)
    | 1 => v = .bool false
    | 2 => v = .bool false
    | 3 => v = .agg #[.int .i64 s.1.1, .int .i64 s.1.2, .int .i64 s.2]
    | 4 => v = .bool true
    | 5 => v = .bool false
    | 6 => v = .bool false
    | 7 => v = .bool false
    | 8 => v = .agg #[.int .i64 s.1.1, .int .i64 s.1.2, .int .i64 s.2]
    | 9 => v = .agg #[.int .i64 1, .int .i64 0, .int .i64 0]
    | 10 => v = .bool false
    | 11 => v = .bool false
    | _ => True) (by kernel_rfl) (by kernel_rfl) (by kernel_rfl) (by kernel_rfl) (by decide) ?htla ?hfra ?staba ?stepsa ?donea
  case htla => simp only [List.drop_succ_cons, List.drop_zero]; rfl
  case hfra => intro vals; simp only [putAll, dstAt, Act.put, List.getElem?_toArray, List.getElem?_cons_zero, List.getElem?_cons_succ, Option.bind_some, List.setIfInBounds_toArray, List.set_cons_zero, List.set_cons_succ]; rfl
  case staba =>
    intro i v wa wb h
    try dsimp only
    split <;> first | exact id | fail
  case stepsa =>
    refine ⟨?_, ?_, ?_, ?_, ?_, ?_, ?_, ?_, ?_, ?_, ?_, ?_, trivial⟩
    · intro vals wr hR hp K hK
      dsimp only at hK ⊢
      clear hp
      unfold RunsOp
      go_simp
      exact hK.out _ _ ⟨_, rfl, Only.refl _ _, rfl⟩
    · intro vals wr hR hp K hK
      dsimp only at hK ⊢
      obtain ⟨p0, -⟩ := hp
      replace p0 := p0 rfl
      dsimp only at p0
      rw [p0] at hK ⊢
      clear p0
      unfold RunsOp
      go_simp
      exact hK.out _ _ ⟨_, rfl, Only.refl _ _, rfl⟩
    · intro vals wr hR hp K hK
      dsimp only at hK ⊢
      obtain ⟨p1, -⟩ := hp
      replace p1 := p1 rfl
      dsimp only at p1
      rw [p1] at hK ⊢
      clear p1
      unfold RunsOp
      go_simp
      exact hK.out _ _ ⟨_, rfl, Only.refl _ _, rfl⟩
    · intro vals wr hR hp K hK
      dsimp only at hK ⊢
      obtain ⟨p2, -⟩ := hp
      replace p2 := p2 rfl
      dsimp only at p2
      rw [p2] at hK ⊢
      clear p2
      unfold RunsOp
      have tbB1 := hR.blk (by first | exact B1.out | exact Blk.drew B1.out) (by simp)
      obtain ⟨cB10, cB11, cB12, clB1⟩ := tbB1.facts3
      clear tbB1
      go_simp
      exact hK.out _ _ ⟨_, rfl, Only.refl _ _, rfl⟩
    · intro vals wr hR hp K hK
      dsimp only at hK ⊢
      obtain ⟨p3, p2, -, -⟩ := hp
      replace p3 := p3 rfl
      replace p2 := p2 rfl
      dsimp only at p3 p2
      rw [p3, p2] at hK ⊢
      clear p3 p2
      unfold RunsOp
      go_simp
      refine (strightr os RS.out _).mono ?_
      rintro e w2 ⟨rfl, o2⟩
      exact hK.out _ _ ⟨_, rfl, o2, rfl⟩
    · intro vals wr hR hp K hK
      dsimp only at hK ⊢
      obtain ⟨p4, p2, -⟩ := hp
      replace p4 := p4 rfl
      replace p2 := p2 rfl
      dsimp only at p4 p2
      obtain p4 := p4
      rw [p4, p2] at hK ⊢
      clear p4 p2
      unfold RunsOp
      go_simp
      exact hK.out _ _ ⟨_, rfl, Only.refl _ _, rfl⟩
    · intro vals wr hR hp K hK
      dsimp only at hK ⊢
      obtain ⟨p2, p5, -⟩ := hp
      replace p2 := p2 rfl
      replace p5 := p5 rfl
      dsimp only at p2 p5
      rw [p2, p5] at hK ⊢
      clear p2 p5
      unfold RunsOp
      go_simp
      exact hK.out _ _ ⟨_, rfl, Only.refl _ _, rfl⟩
    · intro vals wr hR hp K hK
      dsimp only at hK ⊢
      obtain ⟨p6, -, -⟩ := hp
      replace p6 := p6 rfl
      dsimp only at p6
      rw [p6] at hK ⊢
      clear p6
      unfold RunsOp
      go_simp
      exact hK.out _ _ ⟨_, rfl, Only.refl _ _, rfl⟩
    · intro vals wr hR hp K hK
      dsimp only at hK ⊢
      obtain ⟨p7, -⟩ := hp
      replace p7 := p7 rfl
      dsimp only at p7
      rw [p7] at hK ⊢
      clear p7
      unfold RunsOp
      have tbB1 := hR.blk (by first | exact B1.out | exact Blk.drew B1.out) (by simp)
      obtain ⟨cB10, cB11, cB12, clB1⟩ := tbB1.facts3
      clear tbB1
      go_simp
      exact hK.out _ _ ⟨_, rfl, Only.refl _ _, rfl⟩
    · intro vals wr hR hp K hK
      dsimp only at hK ⊢
      obtain ⟨p7, -, -⟩ := hp
      replace p7 := p7 rfl
      dsimp only at p7
      rw [p7] at hK ⊢
      clear p7
      unfold RunsOp
      go_simp
      refine (stnever_any _).mono ?_
      rintro e w2 ⟨rfl, o2⟩
      exact hK.out _ _ ⟨_, rfl, o2, rfl⟩
    · intro vals wr hR hp K hK
      dsimp only at hK ⊢
      obtain ⟨p8, p9, p7, -⟩ := hp
      replace p8 := p8 rfl
      replace p9 := p9 rfl
      replace p7 := p7 rfl
      dsimp only at p8 p9 p7
      obtain p9 := p9
      rw [p8, p9, p7] at hK ⊢
      clear p8 p9 p7
      unfold RunsOp
      go_simp
      exact hK.out _ _ ⟨_, rfl, Only.refl _ _, rfl⟩
    · intro vals wr hR hp K hK
      dsimp only at hK ⊢
      obtain ⟨p7, p10, -⟩ := hp
      replace p7 := p7 rfl
      replace p10 := p10 rfl
      dsimp only at p7 p10
      rw [p7, p10] at hK ⊢
      clear p7 p10
      unfold RunsOp
      go_simp
      exact hK.out _ _ ⟨_, rfl, Only.refl _ _, rfl⟩
  intro vals w2 hR hF
  have f11 : vals 11 = .bool false := hF 11 (by decide)
  rw [f11]
  clear hF f11
  refine wpList_nil ?_
  have BGx := hR.blk (t := 66) (cs := #[.int .i64 room, .slice (some ⟨b, 0, none⟩) (m + 1) c]) (g := g) (by first | exact BG.out | exact Blk.drewN BG.out _ | exact Blk.drew BG.out) (by simp)
  have B1x := hR.blk (t := 34) (cs := #[.int .i64 s.1.1, .int .i64 s.1.2, .int .i64 s.2]) (g := w.heap.size) (by first | exact B1.out | exact Blk.drewN B1.out _ | exact Blk.drew B1.out) (by simp)
  have O2x : Only [] w w2 := (by first | exact Only.trans O1.out hR (by simp) | exact Only.trans (Only.drewN O1.out _) hR (by simp) | exact Only.trans (Only.drew O1.out) hR (by simp))
  obtain ⟨BGc0, BGc1, BGl⟩ := BGx.facts2
  obtain ⟨B1c0, B1c1, B1c2, B1l⟩ := B1x.facts3
  clear BG B1 O1 hR
  have BG := Lib.hid BGx; have B1 := Lib.hid B1x; have O2 := Lib.hid O2x
  clear BGx B1x O2x
  have HC0' := (O2.out.cell (p := ⟨b, m * 4, none⟩) hb (by simp)).trans HC0.out
  have HC1' := (O2.out.cell (p := ⟨b, m * 4 + 1, none⟩) hb (by simp)).trans HC1.out
  have HC2' := (O2.out.cell (p := ⟨b, m * 4 + 2, none⟩) hb (by simp)).trans HC2.out
  have hb := Nat.lt_of_lt_of_le hb O2.out.size
  clear HC0 HC1 HC2
  have HC0 := Lib.hid HC0'
  have HC1 := Lib.hid HC1'
  have HC2 := Lib.hid HC2'
  clear HC0' HC1' HC2'
  go_wp2_with (fail)
  refine wp_region_facts 16 [] (fr := ?frb) (tl := ?tlb) (fun i v wv => match i with
    | 0 => v = .int .i64 ((m : Int) + 1)
    | 1 => v = .bool true
    | 2 => v = .bool true
    | 3 => v = .pointer (some ⟨g, 0, none⟩)
    | 4 => v = .pointer (some ⟨g, 0, none⟩)
    | 5 => v = .pointer (some ⟨g, 1, none⟩)
    | 6 => v = .slice (some ⟨b, 0, none⟩) (m + 1) c
    | 7 => v = .int .i64 ((m : Int) + 1)
    | 8 => v = .int .i64 (m : Int)
    | 9 => v = .pointer (some ⟨b, m * 4, none⟩)
    | 10 => v = .pointer (some ⟨b, m * 4, none⟩)
    | 11 => v = .agg #[.int .i64 l.1.1.1, .int .i64 l.1.1.2, .int .i64 l.1.2]
    | 12 => v = .agg #[.int .i64 s.1.1, .int .i64 s.1.2, .int .i64 s.2]
    | 13 => v = .bool false
    | 14 => v = .bool (!false)
    | 15 => v = .bool (!false)
    | _ => True) (by kernel_rfl) (by kernel_rfl) (by kernel_rfl) (by kernel_rfl) (by decide) ?htlb ?hfrb ?stabb ?stepsb ?doneb
  case htlb => simp only [List.drop_succ_cons, List.drop_zero]; rfl
  case hfrb => intro vals; simp only [putAll, dstAt, Act.put, List.getElem?_toArray, List.getElem?_cons_zero, List.getElem?_cons_succ, Option.bind_some, List.setIfInBounds_toArray, List.set_cons_zero, List.set_cons_succ]; rfl
  case stabb =>
    intro i v wa wb h
    try dsimp only
    split <;> first | exact id | fail
  case stepsb =>
    refine ⟨?_, ?_, ?_, ?_, ?_, ?_, ?_, ?_, ?_, ?_, ?_, ?_, ?_, ?_, ?_, ?_, trivial⟩
    · intro vals wr hR hp K hK
      dsimp only at hK ⊢
      clear hp
      unfold RunsOp
      go_simp
      exact hK.out _ _ ⟨_, rfl, Only.refl _ _, rfl⟩
    · intro vals wr hR hp K hK
      dsimp only at hK ⊢
      obtain ⟨p0, -⟩ := hp
      replace p0 := p0 rfl
      dsimp only at p0
      rw [p0] at hK ⊢
      clear p0
      unfold RunsOp
      go_simp
      exact hK.out _ _ ⟨_, rfl, Only.refl _ _, rfl⟩
    · intro vals wr hR hp K hK
      dsimp only at hK ⊢
      obtain ⟨p1, -⟩ := hp
      replace p1 := p1 rfl
      dsimp only at p1
      rw [p1] at hK ⊢
      clear p1
      unfold RunsOp
      go_simp
      exact hK.out _ _ ⟨_, rfl, Only.refl _ _, rfl⟩
    · intro vals wr hR hp K hK
      dsimp only at hK ⊢
      obtain ⟨p2, -⟩ := hp
      replace p2 := p2 rfl
      dsimp only at p2
      rw [p2] at hK ⊢
      clear p2
      unfold RunsOp
      go_simp
      exact hK.out _ _ ⟨_, rfl, Only.refl _ _, rfl⟩
    · intro vals wr hR hp K hK
      dsimp only at hK ⊢
      obtain ⟨p3, p2, -⟩ := hp
      replace p3 := p3 rfl
      replace p2 := p2 rfl
      dsimp only at p3 p2
      rw [p3, p2] at hK ⊢
      clear p3 p2
      unfold RunsOp
      go_simp
      exact hK.out _ _ ⟨_, rfl, Only.refl _ _, rfl⟩
    · intro vals wr hR hp K hK
      dsimp only at hK ⊢
      obtain ⟨p4, p2, -⟩ := hp
      replace p4 := p4 rfl
      replace p2 := p2 rfl
      dsimp only at p4 p2
      rw [p4, p2] at hK ⊢
      clear p4 p2
      unfold RunsOp
      go_simp
      exact hK.out _ _ ⟨_, rfl, Only.refl _ _, rfl⟩
    · intro vals wr hR hp K hK
      dsimp only at hK ⊢
      obtain ⟨p5, p2, -⟩ := hp
      replace p5 := p5 rfl
      replace p2 := p2 rfl
      dsimp only at p5 p2
      rw [p5, p2] at hK ⊢
      clear p5 p2
      unfold RunsOp
      have tbBG := hR.blk (by first | exact BG.out | exact Blk.drew BG.out) (by simp)
      obtain ⟨cBG0, cBG1, clBG⟩ := tbBG.facts2
      clear tbBG
      go_simp
      exact hK.out _ _ ⟨_, rfl, Only.refl _ _, rfl⟩
    · intro vals wr hR hp K hK
      dsimp only at hK ⊢
      obtain ⟨p2, -⟩ := hp
      replace p2 := p2 rfl
      dsimp only at p2
      rw [p2] at hK ⊢
      clear p2
      unfold RunsOp
      go_simp
      exact hK.out _ _ ⟨_, rfl, Only.refl _ _, rfl⟩
    · intro vals wr hR hp K hK
      dsimp only at hK ⊢
      obtain ⟨p7, p2, -⟩ := hp
      replace p7 := p7 rfl
      replace p2 := p2 rfl
      dsimp only at p7 p2
      rw [p7, p2] at hK ⊢
      clear p7 p2
      unfold RunsOp
      go_simp
      exact hK.out _ _ ⟨_, rfl, Only.refl _ _, rfl⟩
    · intro vals wr hR hp K hK
      dsimp only at hK ⊢
      obtain ⟨p6, p8, p2, -⟩ := hp
      replace p6 := p6 rfl
      replace p8 := p8 rfl
      replace p2 := p2 rfl
      dsimp only at p6 p8 p2
      rw [p6, p8, p2] at hK ⊢
      clear p6 p8 p2
      unfold RunsOp
      go_simp
      exact hK.out _ _ ⟨_, rfl, Only.refl _ _, rfl⟩
    · intro vals wr hR hp K hK
      dsimp only at hK ⊢
      obtain ⟨p9, p2, -⟩ := hp
      replace p9 := p9 rfl
      replace p2 := p2 rfl
      dsimp only at p9 p2
      rw [p9, p2] at hK ⊢
      clear p9 p2
      unfold RunsOp
      go_simp
      exact hK.out _ _ ⟨_, rfl, Only.refl _ _, rfl⟩
    · intro vals wr hR hp K hK
      dsimp only at hK ⊢
      obtain ⟨p10, p2, -⟩ := hp
      replace p10 := p10 rfl
      replace p2 := p2 rfl
      dsimp only at p10 p2
      rw [p10, p2] at hK ⊢
      clear p10 p2
      unfold RunsOp
      have c0 := (hR.cell (p := ⟨b, m * 4, none⟩) hb (by simp)).trans HC0.out
      have c1 := (hR.cell (p := ⟨b, m * 4 + 1, none⟩) hb (by simp)).trans HC1.out
      have c2 := (hR.cell (p := ⟨b, m * 4 + 2, none⟩) hb (by simp)).trans HC2.out
      go_simp
      exact hK.out _ _ ⟨_, rfl, Only.refl _ _, rfl⟩
    · intro vals wr hR hp K hK
      dsimp only at hK ⊢
      obtain ⟨p2, -⟩ := hp
      replace p2 := p2 rfl
      dsimp only at p2
      rw [p2] at hK ⊢
      clear p2
      unfold RunsOp
      have tbB1 := hR.blk (by first | exact B1.out | exact Blk.drew B1.out) (by simp)
      obtain ⟨cB10, cB11, cB12, clB1⟩ := tbB1.facts3
      clear tbB1
      go_simp
      exact hK.out _ _ ⟨_, rfl, Only.refl _ _, rfl⟩
    · intro vals wr hR hp K hK
      dsimp only at hK ⊢
      obtain ⟨p11, p12, p2, -, -⟩ := hp
      replace p11 := p11 rfl
      replace p12 := p12 rfl
      replace p2 := p2 rfl
      dsimp only at p11 p12 p2
      rw [p11, p12, p2] at hK ⊢
      clear p11 p12 p2
      unfold RunsOp
      go_simp
      refine (less_lt l.1 s ol os HY.out _).mono ?_
      rintro e w2 ⟨rfl, o2⟩
      exact hK.out _ _ ⟨_, rfl, o2, rfl⟩
    · intro vals wr hR hp K hK
      dsimp only at hK ⊢
      obtain ⟨p13, p2, -⟩ := hp
      replace p13 := p13 rfl
      replace p2 := p2 rfl
      dsimp only at p13 p2
      obtain p13 := p13
      rw [p13, p2] at hK ⊢
      clear p13 p2
      unfold RunsOp
      go_simp
      exact hK.out _ _ ⟨_, rfl, Only.refl _ _, rfl⟩
    · intro vals wr hR hp K hK
      dsimp only at hK ⊢
      obtain ⟨p2, p14, -⟩ := hp
      replace p2 := p2 rfl
      replace p14 := p14 rfl
      dsimp only at p2 p14
      rw [p2, p14] at hK ⊢
      clear p2 p14
      unfold RunsOp
      go_simp
      exact hK.out _ _ ⟨_, rfl, Only.refl _ _, rfl⟩
  intro vals w3 hR hF
  have f15 : vals 15 = .bool (!false) := hF 15 (by decide)
  rw [f15]
  clear hF f15
  refine wpList_nil ?_
  have BGx := hR.blk (t := 66) (cs := #[.int .i64 room, .slice (some ⟨b, 0, none⟩) (m + 1) c]) (g := g) (by first | exact BG.out | exact Blk.drewN BG.out _ | exact Blk.drew BG.out) (by simp)
  have B1x := hR.blk (t := 34) (cs := #[.int .i64 s.1.1, .int .i64 s.1.2, .int .i64 s.2]) (g := w.heap.size) (by first | exact B1.out | exact Blk.drewN B1.out _ | exact Blk.drew B1.out) (by simp)
  have O3x : Only [] w w3 := (by first | exact Only.trans O2.out hR (by simp) | exact Only.trans (Only.drewN O2.out _) hR (by simp) | exact Only.trans (Only.drew O2.out) hR (by simp))
  obtain ⟨BGc0, BGc1, BGl⟩ := BGx.facts2
  obtain ⟨B1c0, B1c1, B1c2, B1l⟩ := B1x.facts3
  clear BG B1 O2 hR
  have BG := Lib.hid BGx; have B1 := Lib.hid B1x; have O3 := Lib.hid O3x
  clear BGx B1x O3x
  simp only [Bool.not_true, Bool.not_false]
  go_wp2_with (fail)
  go_ret
  exact ⟨rfl, by first | exact O3.out | exact Only.drewN O3.out _ | exact Only.drew O3.out⟩

set_option maxHeartbeats 4000000 in
theorem put_full {s : St} {x : Int} {B : Nat} {g : Nat} {room : Int} {L : List En} {A : Option Addr} {c : Nat} {m : Nat} {l : En} {w : World} (hT : TB B w g room L A c) (os : s.ok) (rs : stR s = true) (hn : s ≠ ((1, 0), 0)) (hm : L.length = m + 1) (h20 : m ≤ 1048576) (hl : L[m]? = some l) (ol : l.1.ok) (hy : decide (stC l.1 s < 0) = true) (hr : decide (room ≤ (m : Int) + 1) = true) :
    Calls Try.prog 10 #[.pointer (some ⟨g, 0, none⟩), .agg #[.int .i64 s.1.1, .int .i64 s.1.2, .int .i64 s.2], .int .i64 x] w fun e w' => e = .returned (.int .i64 14) ∧ Only [] w w' := by
  have O0 := Lib.hid (Only.refl [] w)
  have hw64 : IntKind.i64.wrap (m : Int) = (m : Int) := by rw [IntKind.wrap_i64]; omega
  have hmm : (m : Int) < (m : Int) + 1 := by omega
  have hw := hT.own
  have hbk := hT.blk
  rw [hm] at hw hbk
  obtain ⟨b, rfl, hb, -, c0, c1, c2, c3⟩ := own_cell hm.symm hw hl
  have BG := Lib.hid hbk
  have HC0 := Lib.hid c0
  have HC1 := Lib.hid c1
  have HC2 := Lib.hid c2
  have HY := Lib.hid hy
  clear c0 c1 c2 c3 hw hbk hy
  clear hT
  have RS := Lib.hid rs
  have hE := eq_st34F hn
  clear rs hn
  go_enter Try.func10, Try.ntmps10
  have BGy : Blk (w.alloc (.cells #[.int .i64 s.1.1, .int .i64 s.1.2, .int .i64 s.2] 34)) (g) 66 #[.int .i64 room, .slice (some ⟨b, 0, none⟩) (m + 1) c] := (BG.out.alloc _)
  clear BG
  have BG := Lib.hid BGy
  clear BGy
  have B1 := Lib.hid ((by have h := Blk.new w 34 #[.int .i64 s.1.1, .int .i64 s.1.2, .int .i64 s.2]; simpa using h : Blk (w.alloc (.cells #[.int .i64 s.1.1, .int .i64 s.1.2, .int .i64 s.2] 34)) (w.heap.size) 34 #[.int .i64 s.1.1, .int .i64 s.1.2, .int .i64 s.2]) : Blk (w.alloc (.cells #[.int .i64 s.1.1, .int .i64 s.1.2, .int .i64 s.2] 34)) (w.heap.size) 34 #[.int .i64 s.1.1, .int .i64 s.1.2, .int .i64 s.2])
  have O1 := Lib.hid ((O0.out.alloc _) : Only [] w (w.alloc (.cells #[.int .i64 s.1.1, .int .i64 s.1.2, .int .i64 s.2] 34)))
  clear O0
  go_wp2_with (fail)
  refine wp_region_facts 12 [] (fr := ?fra) (tl := ?tla) (fun i v wv => match i with
    | 0 => v = .pointer (some ⟨g, 0, none⟩)
    | 1 => v = .bool false
    | 2 => v = .bool false
    | 3 => v = .agg #[.int .i64 s.1.1, .int .i64 s.1.2, .int .i64 s.2]
    | 4 => v = .bool true
    | 5 => v = .bool false
    | 6 => v = .bool false
    | 7 => v = .bool false
    | 8 => v = .agg #[.int .i64 s.1.1, .int .i64 s.1.2, .int .i64 s.2]
    | 9 => v = .agg #[.int .i64 1, .int .i64 0, .int .i64 0]
    | 10 => v = .bool false
    | 11 => v = .bool false
    | _ => True) (by kernel_rfl) (by kernel_rfl) (by kernel_rfl) (by kernel_rfl) (by decide) ?htla ?hfra ?staba ?stepsa ?donea
  case htla => simp only [List.drop_succ_cons, List.drop_zero]; rfl
  case hfra => intro vals; simp only [putAll, dstAt, Act.put, List.getElem?_toArray, List.getElem?_cons_zero, List.getElem?_cons_succ, Option.bind_some, List.setIfInBounds_toArray, List.set_cons_zero, List.set_cons_succ]; rfl
  case staba =>
    intro i v wa wb h
    try dsimp only
    split <;> first | exact id | fail
  case stepsa =>
    refine ⟨?_, ?_, ?_, ?_, ?_, ?_, ?_, ?_, ?_, ?_, ?_, ?_, trivial⟩
    · intro vals wr hR hp K hK
      dsimp only at hK ⊢
      clear hp
      unfold RunsOp
      go_simp
      exact hK.out _ _ ⟨_, rfl, Only.refl _ _, rfl⟩
    · intro vals wr hR hp K hK
      dsimp only at hK ⊢
      obtain ⟨p0, -⟩ := hp
      replace p0 := p0 rfl
      dsimp only at p0
      rw [p0] at hK ⊢
      clear p0
      unfold RunsOp
      go_simp
      exact hK.out _ _ ⟨_, rfl, Only.refl _ _, rfl⟩
    · intro vals wr hR hp K hK
      dsimp only at hK ⊢
      obtain ⟨p1, -⟩ := hp
      replace p1 := p1 rfl
      dsimp only at p1
      rw [p1] at hK ⊢
      clear p1
      unfold RunsOp
      go_simp
      exact hK.out _ _ ⟨_, rfl, Only.refl _ _, rfl⟩
    · intro vals wr hR hp K hK
      dsimp only at hK ⊢
      obtain ⟨p2, -⟩ := hp
      replace p2 := p2 rfl
      dsimp only at p2
      rw [p2] at hK ⊢
      clear p2
      unfold RunsOp
      have tbB1 := hR.blk (by first | exact B1.out | exact Blk.drew B1.out) (by simp)
      obtain ⟨cB10, cB11, cB12, clB1⟩ := tbB1.facts3
      clear tbB1
      go_simp
      exact hK.out _ _ ⟨_, rfl, Only.refl _ _, rfl⟩
    · intro vals wr hR hp K hK
      dsimp only at hK ⊢
      obtain ⟨p3, p2, -, -⟩ := hp
      replace p3 := p3 rfl
      replace p2 := p2 rfl
      dsimp only at p3 p2
      rw [p3, p2] at hK ⊢
      clear p3 p2
      unfold RunsOp
      go_simp
      refine (strightr os RS.out _).mono ?_
      rintro e w2 ⟨rfl, o2⟩
      exact hK.out _ _ ⟨_, rfl, o2, rfl⟩
    · intro vals wr hR hp K hK
      dsimp only at hK ⊢
      obtain ⟨p4, p2, -⟩ := hp
      replace p4 := p4 rfl
      replace p2 := p2 rfl
      dsimp only at p4 p2
      obtain p4 := p4
      rw [p4, p2] at hK ⊢
      clear p4 p2
      unfold RunsOp
      go_simp
      exact hK.out _ _ ⟨_, rfl, Only.refl _ _, rfl⟩
    · intro vals wr hR hp K hK
      dsimp only at hK ⊢
      obtain ⟨p2, p5, -⟩ := hp
      replace p2 := p2 rfl
      replace p5 := p5 rfl
      dsimp only at p2 p5
      rw [p2, p5] at hK ⊢
      clear p2 p5
      unfold RunsOp
      go_simp
      exact hK.out _ _ ⟨_, rfl, Only.refl _ _, rfl⟩
    · intro vals wr hR hp K hK
      dsimp only at hK ⊢
      obtain ⟨p6, -, -⟩ := hp
      replace p6 := p6 rfl
      dsimp only at p6
      rw [p6] at hK ⊢
      clear p6
      unfold RunsOp
      go_simp
      exact hK.out _ _ ⟨_, rfl, Only.refl _ _, rfl⟩
    · intro vals wr hR hp K hK
      dsimp only at hK ⊢
      obtain ⟨p7, -⟩ := hp
      replace p7 := p7 rfl
      dsimp only at p7
      rw [p7] at hK ⊢
      clear p7
      unfold RunsOp
      have tbB1 := hR.blk (by first | exact B1.out | exact Blk.drew B1.out) (by simp)
      obtain ⟨cB10, cB11, cB12, clB1⟩ := tbB1.facts3
      clear tbB1
      go_simp
      exact hK.out _ _ ⟨_, rfl, Only.refl _ _, rfl⟩
    · intro vals wr hR hp K hK
      dsimp only at hK ⊢
      obtain ⟨p7, -, -⟩ := hp
      replace p7 := p7 rfl
      dsimp only at p7
      rw [p7] at hK ⊢
      clear p7
      unfold RunsOp
      go_simp
      refine (stnever_any _).mono ?_
      rintro e w2 ⟨rfl, o2⟩
      exact hK.out _ _ ⟨_, rfl, o2, rfl⟩
    · intro vals wr hR hp K hK
      dsimp only at hK ⊢
      obtain ⟨p8, p9, p7, -⟩ := hp
      replace p8 := p8 rfl
      replace p9 := p9 rfl
      replace p7 := p7 rfl
      dsimp only at p8 p9 p7
      obtain p9 := p9
      rw [p8, p9, p7] at hK ⊢
      clear p8 p9 p7
      unfold RunsOp
      go_simp
      exact hK.out _ _ ⟨_, rfl, Only.refl _ _, rfl⟩
    · intro vals wr hR hp K hK
      dsimp only at hK ⊢
      obtain ⟨p7, p10, -⟩ := hp
      replace p7 := p7 rfl
      replace p10 := p10 rfl
      dsimp only at p7 p10
      rw [p7, p10] at hK ⊢
      clear p7 p10
      unfold RunsOp
      go_simp
      exact hK.out _ _ ⟨_, rfl, Only.refl _ _, rfl⟩
  intro vals w2 hR hF
  have f11 : vals 11 = .bool false := hF 11 (by decide)
  rw [f11]
  clear hF f11
  refine wpList_nil ?_
  have BGx := hR.blk (t := 66) (cs := #[.int .i64 room, .slice (some ⟨b, 0, none⟩) (m + 1) c]) (g := g) (by first | exact BG.out | exact Blk.drewN BG.out _ | exact Blk.drew BG.out) (by simp)
  have B1x := hR.blk (t := 34) (cs := #[.int .i64 s.1.1, .int .i64 s.1.2, .int .i64 s.2]) (g := w.heap.size) (by first | exact B1.out | exact Blk.drewN B1.out _ | exact Blk.drew B1.out) (by simp)
  have O2x : Only [] w w2 := (by first | exact Only.trans O1.out hR (by simp) | exact Only.trans (Only.drewN O1.out _) hR (by simp) | exact Only.trans (Only.drew O1.out) hR (by simp))
  obtain ⟨BGc0, BGc1, BGl⟩ := BGx.facts2
  obtain ⟨B1c0, B1c1, B1c2, B1l⟩ := B1x.facts3
  clear BG B1 O1 hR
  have BG := Lib.hid BGx; have B1 := Lib.hid B1x; have O2 := Lib.hid O2x
  clear BGx B1x O2x
  have HC0' := (O2.out.cell (p := ⟨b, m * 4, none⟩) hb (by simp)).trans HC0.out
  have HC1' := (O2.out.cell (p := ⟨b, m * 4 + 1, none⟩) hb (by simp)).trans HC1.out
  have HC2' := (O2.out.cell (p := ⟨b, m * 4 + 2, none⟩) hb (by simp)).trans HC2.out
  have hb := Nat.lt_of_lt_of_le hb O2.out.size
  clear HC0 HC1 HC2
  have HC0 := Lib.hid HC0'
  have HC1 := Lib.hid HC1'
  have HC2 := Lib.hid HC2'
  clear HC0' HC1' HC2'
  go_wp2_with (fail)
  refine wp_region_facts 16 [] (fr := ?frb) (tl := ?tlb) (fun i v wv => match i with
    | 0 => v = .int .i64 ((m : Int) + 1)
    | 1 => v = .bool true
    | 2 => v = .bool true
    | 3 => v = .pointer (some ⟨g, 0, none⟩)
    | 4 => v = .pointer (some ⟨g, 0, none⟩)
    | 5 => v = .pointer (some ⟨g, 1, none⟩)
    | 6 => v = .slice (some ⟨b, 0, none⟩) (m + 1) c
    | 7 => v = .int .i64 ((m : Int) + 1)
    | 8 => v = .int .i64 (m : Int)
    | 9 => v = .pointer (some ⟨b, m * 4, none⟩)
    | 10 => v = .pointer (some ⟨b, m * 4, none⟩)
    | 11 => v = .agg #[.int .i64 l.1.1.1, .int .i64 l.1.1.2, .int .i64 l.1.2]
    | 12 => v = .agg #[.int .i64 s.1.1, .int .i64 s.1.2, .int .i64 s.2]
    | 13 => v = .bool true
    | 14 => v = .bool (!true)
    | 15 => v = .bool (!true)
    | _ => True) (by kernel_rfl) (by kernel_rfl) (by kernel_rfl) (by kernel_rfl) (by decide) ?htlb ?hfrb ?stabb ?stepsb ?doneb
  case htlb => simp only [List.drop_succ_cons, List.drop_zero]; rfl
  case hfrb => intro vals; simp only [putAll, dstAt, Act.put, List.getElem?_toArray, List.getElem?_cons_zero, List.getElem?_cons_succ, Option.bind_some, List.setIfInBounds_toArray, List.set_cons_zero, List.set_cons_succ]; rfl
  case stabb =>
    intro i v wa wb h
    try dsimp only
    split <;> first | exact id | fail
  case stepsb =>
    refine ⟨?_, ?_, ?_, ?_, ?_, ?_, ?_, ?_, ?_, ?_, ?_, ?_, ?_, ?_, ?_, ?_, trivial⟩
    · intro vals wr hR hp K hK
      dsimp only at hK ⊢
      clear hp
      unfold RunsOp
      go_simp
      exact hK.out _ _ ⟨_, rfl, Only.refl _ _, rfl⟩
    · intro vals wr hR hp K hK
      dsimp only at hK ⊢
      obtain ⟨p0, -⟩ := hp
      replace p0 := p0 rfl
      dsimp only at p0
      rw [p0] at hK ⊢
      clear p0
      unfold RunsOp
      go_simp
      exact hK.out _ _ ⟨_, rfl, Only.refl _ _, rfl⟩
    · intro vals wr hR hp K hK
      dsimp only at hK ⊢
      obtain ⟨p1, -⟩ := hp
      replace p1 := p1 rfl
      dsimp only at p1
      rw [p1] at hK ⊢
      clear p1
      unfold RunsOp
      go_simp
      exact hK.out _ _ ⟨_, rfl, Only.refl _ _, rfl⟩
    · intro vals wr hR hp K hK
      dsimp only at hK ⊢
      obtain ⟨p2, -⟩ := hp
      replace p2 := p2 rfl
      dsimp only at p2
      rw [p2] at hK ⊢
      clear p2
      unfold RunsOp
      go_simp
      exact hK.out _ _ ⟨_, rfl, Only.refl _ _, rfl⟩
    · intro vals wr hR hp K hK
      dsimp only at hK ⊢
      obtain ⟨p3, p2, -⟩ := hp
      replace p3 := p3 rfl
      replace p2 := p2 rfl
      dsimp only at p3 p2
      rw [p3, p2] at hK ⊢
      clear p3 p2
      unfold RunsOp
      go_simp
      exact hK.out _ _ ⟨_, rfl, Only.refl _ _, rfl⟩
    · intro vals wr hR hp K hK
      dsimp only at hK ⊢
      obtain ⟨p4, p2, -⟩ := hp
      replace p4 := p4 rfl
      replace p2 := p2 rfl
      dsimp only at p4 p2
      rw [p4, p2] at hK ⊢
      clear p4 p2
      unfold RunsOp
      go_simp
      exact hK.out _ _ ⟨_, rfl, Only.refl _ _, rfl⟩
    · intro vals wr hR hp K hK
      dsimp only at hK ⊢
      obtain ⟨p5, p2, -⟩ := hp
      replace p5 := p5 rfl
      replace p2 := p2 rfl
      dsimp only at p5 p2
      rw [p5, p2] at hK ⊢
      clear p5 p2
      unfold RunsOp
      have tbBG := hR.blk (by first | exact BG.out | exact Blk.drew BG.out) (by simp)
      obtain ⟨cBG0, cBG1, clBG⟩ := tbBG.facts2
      clear tbBG
      go_simp
      exact hK.out _ _ ⟨_, rfl, Only.refl _ _, rfl⟩
    · intro vals wr hR hp K hK
      dsimp only at hK ⊢
      obtain ⟨p2, -⟩ := hp
      replace p2 := p2 rfl
      dsimp only at p2
      rw [p2] at hK ⊢
      clear p2
      unfold RunsOp
      go_simp
      exact hK.out _ _ ⟨_, rfl, Only.refl _ _, rfl⟩
    · intro vals wr hR hp K hK
      dsimp only at hK ⊢
      obtain ⟨p7, p2, -⟩ := hp
      replace p7 := p7 rfl
      replace p2 := p2 rfl
      dsimp only at p7 p2
      rw [p7, p2] at hK ⊢
      clear p7 p2
      unfold RunsOp
      go_simp
      exact hK.out _ _ ⟨_, rfl, Only.refl _ _, rfl⟩
    · intro vals wr hR hp K hK
      dsimp only at hK ⊢
      obtain ⟨p6, p8, p2, -⟩ := hp
      replace p6 := p6 rfl
      replace p8 := p8 rfl
      replace p2 := p2 rfl
      dsimp only at p6 p8 p2
      rw [p6, p8, p2] at hK ⊢
      clear p6 p8 p2
      unfold RunsOp
      go_simp
      exact hK.out _ _ ⟨_, rfl, Only.refl _ _, rfl⟩
    · intro vals wr hR hp K hK
      dsimp only at hK ⊢
      obtain ⟨p9, p2, -⟩ := hp
      replace p9 := p9 rfl
      replace p2 := p2 rfl
      dsimp only at p9 p2
      rw [p9, p2] at hK ⊢
      clear p9 p2
      unfold RunsOp
      go_simp
      exact hK.out _ _ ⟨_, rfl, Only.refl _ _, rfl⟩
    · intro vals wr hR hp K hK
      dsimp only at hK ⊢
      obtain ⟨p10, p2, -⟩ := hp
      replace p10 := p10 rfl
      replace p2 := p2 rfl
      dsimp only at p10 p2
      rw [p10, p2] at hK ⊢
      clear p10 p2
      unfold RunsOp
      have c0 := (hR.cell (p := ⟨b, m * 4, none⟩) hb (by simp)).trans HC0.out
      have c1 := (hR.cell (p := ⟨b, m * 4 + 1, none⟩) hb (by simp)).trans HC1.out
      have c2 := (hR.cell (p := ⟨b, m * 4 + 2, none⟩) hb (by simp)).trans HC2.out
      go_simp
      exact hK.out _ _ ⟨_, rfl, Only.refl _ _, rfl⟩
    · intro vals wr hR hp K hK
      dsimp only at hK ⊢
      obtain ⟨p2, -⟩ := hp
      replace p2 := p2 rfl
      dsimp only at p2
      rw [p2] at hK ⊢
      clear p2
      unfold RunsOp
      have tbB1 := hR.blk (by first | exact B1.out | exact Blk.drew B1.out) (by simp)
      obtain ⟨cB10, cB11, cB12, clB1⟩ := tbB1.facts3
      clear tbB1
      go_simp
      exact hK.out _ _ ⟨_, rfl, Only.refl _ _, rfl⟩
    · intro vals wr hR hp K hK
      dsimp only at hK ⊢
      obtain ⟨p11, p12, p2, -, -⟩ := hp
      replace p11 := p11 rfl
      replace p12 := p12 rfl
      replace p2 := p2 rfl
      dsimp only at p11 p12 p2
      rw [p11, p12, p2] at hK ⊢
      clear p11 p12 p2
      unfold RunsOp
      go_simp
      refine (less_lt l.1 s ol os HY.out _).mono ?_
      rintro e w2 ⟨rfl, o2⟩
      exact hK.out _ _ ⟨_, rfl, o2, rfl⟩
    · intro vals wr hR hp K hK
      dsimp only at hK ⊢
      obtain ⟨p13, p2, -⟩ := hp
      replace p13 := p13 rfl
      replace p2 := p2 rfl
      dsimp only at p13 p2
      obtain p13 := p13
      rw [p13, p2] at hK ⊢
      clear p13 p2
      unfold RunsOp
      go_simp
      exact hK.out _ _ ⟨_, rfl, Only.refl _ _, rfl⟩
    · intro vals wr hR hp K hK
      dsimp only at hK ⊢
      obtain ⟨p2, p14, -⟩ := hp
      replace p2 := p2 rfl
      replace p14 := p14 rfl
      dsimp only at p2 p14
      rw [p2, p14] at hK ⊢
      clear p2 p14
      unfold RunsOp
      go_simp
      exact hK.out _ _ ⟨_, rfl, Only.refl _ _, rfl⟩
  intro vals w3 hR hF
  have f15 : vals 15 = .bool (!true) := hF 15 (by decide)
  rw [f15]
  clear hF f15
  refine wpList_nil ?_
  have BGx := hR.blk (t := 66) (cs := #[.int .i64 room, .slice (some ⟨b, 0, none⟩) (m + 1) c]) (g := g) (by first | exact BG.out | exact Blk.drewN BG.out _ | exact Blk.drew BG.out) (by simp)
  have B1x := hR.blk (t := 34) (cs := #[.int .i64 s.1.1, .int .i64 s.1.2, .int .i64 s.2]) (g := w.heap.size) (by first | exact B1.out | exact Blk.drewN B1.out _ | exact Blk.drew B1.out) (by simp)
  have O3x : Only [] w w3 := (by first | exact Only.trans O2.out hR (by simp) | exact Only.trans (Only.drewN O2.out _) hR (by simp) | exact Only.trans (Only.drew O2.out) hR (by simp))
  obtain ⟨BGc0, BGc1, BGl⟩ := BGx.facts2
  obtain ⟨B1c0, B1c1, B1c2, B1l⟩ := B1x.facts3
  clear BG B1 O2 hR
  have BG := Lib.hid BGx; have B1 := Lib.hid B1x; have O3 := Lib.hid O3x
  clear BGx B1x O3x
  simp only [Bool.not_true, Bool.not_false]
  go_wp2_with (fail)
  refine wp_region_facts 10 [] (fr := ?frc) (tl := ?tlc) (fun i v wv => match i with
    | 0 => v = .pointer (some ⟨g, 0, none⟩)
    | 1 => v = .pointer (some ⟨g, 0, none⟩)
    | 2 => v = .pointer (some ⟨g, 1, none⟩)
    | 3 => v = .slice (some ⟨b, 0, none⟩) (m + 1) c
    | 4 => v = .int .i64 ((m : Int) + 1)
    | 5 => v = .pointer (some ⟨g, 0, none⟩)
    | 6 => v = .pointer (some ⟨g, 0, none⟩)
    | 7 => v = .pointer (some ⟨g, 0, none⟩)
    | 8 => v = .int .i64 room
    | 9 => v = .bool true
    | _ => True) (by kernel_rfl) (by kernel_rfl) (by kernel_rfl) (by kernel_rfl) (by decide) ?htlc ?hfrc ?stabc ?stepsc ?donec
  case htlc => simp only [List.drop_succ_cons, List.drop_zero]; rfl
  case hfrc => intro vals; simp only [putAll, dstAt, Act.put, List.getElem?_toArray, List.getElem?_cons_zero, List.getElem?_cons_succ, Option.bind_some, List.setIfInBounds_toArray, List.set_cons_zero, List.set_cons_succ]; rfl
  case stabc =>
    intro i v wa wb h
    try dsimp only
    split <;> first | exact id | fail
  case stepsc =>
    refine ⟨?_, ?_, ?_, ?_, ?_, ?_, ?_, ?_, ?_, ?_, trivial⟩
    · intro vals wr hR hp K hK
      dsimp only at hK ⊢
      clear hp
      unfold RunsOp
      go_simp
      exact hK.out _ _ ⟨_, rfl, Only.refl _ _, rfl⟩
    · intro vals wr hR hp K hK
      dsimp only at hK ⊢
      obtain ⟨p0, -⟩ := hp
      replace p0 := p0 rfl
      dsimp only at p0
      rw [p0] at hK ⊢
      clear p0
      unfold RunsOp
      go_simp
      exact hK.out _ _ ⟨_, rfl, Only.refl _ _, rfl⟩
    · intro vals wr hR hp K hK
      dsimp only at hK ⊢
      obtain ⟨p1, -⟩ := hp
      replace p1 := p1 rfl
      dsimp only at p1
      rw [p1] at hK ⊢
      clear p1
      unfold RunsOp
      go_simp
      exact hK.out _ _ ⟨_, rfl, Only.refl _ _, rfl⟩
    · intro vals wr hR hp K hK
      dsimp only at hK ⊢
      obtain ⟨p2, -⟩ := hp
      replace p2 := p2 rfl
      dsimp only at p2
      rw [p2] at hK ⊢
      clear p2
      unfold RunsOp
      have tbBG := hR.blk (by first | exact BG.out | exact Blk.drew BG.out) (by simp)
      obtain ⟨cBG0, cBG1, clBG⟩ := tbBG.facts2
      clear tbBG
      go_simp
      exact hK.out _ _ ⟨_, rfl, Only.refl _ _, rfl⟩
    · intro vals wr hR hp K hK
      dsimp only at hK ⊢
      obtain ⟨p3, -⟩ := hp
      replace p3 := p3 rfl
      dsimp only at p3
      rw [p3] at hK ⊢
      clear p3
      unfold RunsOp
      go_simp
      exact hK.out _ _ ⟨_, rfl, Only.refl _ _, rfl⟩
    · intro vals wr hR hp K hK
      dsimp only at hK ⊢
      clear hp
      unfold RunsOp
      go_simp
      exact hK.out _ _ ⟨_, rfl, Only.refl _ _, rfl⟩
    · intro vals wr hR hp K hK
      dsimp only at hK ⊢
      obtain ⟨p5, -⟩ := hp
      replace p5 := p5 rfl
      dsimp only at p5
      rw [p5] at hK ⊢
      clear p5
      unfold RunsOp
      go_simp
      exact hK.out _ _ ⟨_, rfl, Only.refl _ _, rfl⟩
    · intro vals wr hR hp K hK
      dsimp only at hK ⊢
      obtain ⟨p6, -⟩ := hp
      replace p6 := p6 rfl
      dsimp only at p6
      rw [p6] at hK ⊢
      clear p6
      unfold RunsOp
      go_simp
      exact hK.out _ _ ⟨_, rfl, Only.refl _ _, rfl⟩
    · intro vals wr hR hp K hK
      dsimp only at hK ⊢
      obtain ⟨p7, -⟩ := hp
      replace p7 := p7 rfl
      dsimp only at p7
      rw [p7] at hK ⊢
      clear p7
      unfold RunsOp
      have tbBG := hR.blk (by first | exact BG.out | exact Blk.drew BG.out) (by simp)
      obtain ⟨cBG0, cBG1, clBG⟩ := tbBG.facts2
      clear tbBG
      go_simp
      exact hK.out _ _ ⟨_, rfl, Only.refl _ _, rfl⟩
    · intro vals wr hR hp K hK
      dsimp only at hK ⊢
      obtain ⟨p4, p8, -⟩ := hp
      replace p4 := p4 rfl
      replace p8 := p8 rfl
      dsimp only at p4 p8
      rw [p4, p8] at hK ⊢
      clear p4 p8
      unfold RunsOp
      go_simp
      exact hK.out _ _ ⟨_, rfl, Only.refl _ _, rfl⟩
  intro vals w4 hR hF
  have f9 : vals 9 = .bool true := hF 9 (by decide)
  rw [f9]
  clear hF f9
  refine wpList_nil ?_
  have BGx := hR.blk (t := 66) (cs := #[.int .i64 room, .slice (some ⟨b, 0, none⟩) (m + 1) c]) (g := g) (by first | exact BG.out | exact Blk.drewN BG.out _ | exact Blk.drew BG.out) (by simp)
  have B1x := hR.blk (t := 34) (cs := #[.int .i64 s.1.1, .int .i64 s.1.2, .int .i64 s.2]) (g := w.heap.size) (by first | exact B1.out | exact Blk.drewN B1.out _ | exact Blk.drew B1.out) (by simp)
  have O4x : Only [] w w4 := (by first | exact Only.trans O3.out hR (by simp) | exact Only.trans (Only.drewN O3.out _) hR (by simp) | exact Only.trans (Only.drew O3.out) hR (by simp))
  obtain ⟨BGc0, BGc1, BGl⟩ := BGx.facts2
  obtain ⟨B1c0, B1c1, B1c2, B1l⟩ := B1x.facts3
  clear BG B1 O3 hR
  have BG := Lib.hid BGx; have B1 := Lib.hid B1x; have O4 := Lib.hid O4x
  clear BGx B1x O4x
  go_wp2_with (fail)
  go_ret
  exact ⟨rfl, by first | exact O4.out | exact Only.drewN O4.out _ | exact Only.drew O4.out⟩

set_option maxHeartbeats 4000000 in
theorem put_full0 {s : St} {x : Int} {B : Nat} {g : Nat} {room : Int} {L : List En} {A : Option Addr} {c : Nat}  {w : World} (hT : TB B w g room L A c) (os : s.ok) (rs : stR s = true) (hn : s ≠ ((1, 0), 0)) (hm : L = []) (hr : decide (room ≤ 0) = true) :
    Calls Try.prog 10 #[.pointer (some ⟨g, 0, none⟩), .agg #[.int .i64 s.1.1, .int .i64 s.1.2, .int .i64 s.2], .int .i64 x] w fun e w' => e = .returned (.int .i64 14) ∧ Only [] w w' := by
  have O0 := Lib.hid (Only.refl [] w)
  subst hm
  have BG := Lib.hid hT.blk
  clear hT
  have RS := Lib.hid rs
  have hE := eq_st34F hn
  clear rs hn
  go_enter Try.func10, Try.ntmps10
  have BGy : Blk (w.alloc (.cells #[.int .i64 s.1.1, .int .i64 s.1.2, .int .i64 s.2] 34)) (g) 66 #[.int .i64 room, .slice A 0 c] := (BG.out.alloc _)
  clear BG
  have BG := Lib.hid BGy
  clear BGy
  have B1 := Lib.hid ((by have h := Blk.new w 34 #[.int .i64 s.1.1, .int .i64 s.1.2, .int .i64 s.2]; simpa using h : Blk (w.alloc (.cells #[.int .i64 s.1.1, .int .i64 s.1.2, .int .i64 s.2] 34)) (w.heap.size) 34 #[.int .i64 s.1.1, .int .i64 s.1.2, .int .i64 s.2]) : Blk (w.alloc (.cells #[.int .i64 s.1.1, .int .i64 s.1.2, .int .i64 s.2] 34)) (w.heap.size) 34 #[.int .i64 s.1.1, .int .i64 s.1.2, .int .i64 s.2])
  have O1 := Lib.hid ((O0.out.alloc _) : Only [] w (w.alloc (.cells #[.int .i64 s.1.1, .int .i64 s.1.2, .int .i64 s.2] 34)))
  clear O0
  go_wp2_with (fail)
  refine wp_region_facts 12 [] (fr := ?fra) (tl := ?tla) (fun i v wv => match i with
    | 0 => v = .pointer (some ⟨g, 0, none⟩)
    | 1 => v = .bool false
    | 2 => v = .bool false
    | 3 => v = .agg #[.int .i64 s.1.1, .int .i64 s.1.2, .int .i64 s.2]
    | 4 => v = .bool true
    | 5 => v = .bool false
    | 6 => v = .bool false
    | 7 => v = .bool false
    | 8 => v = .agg #[.int .i64 s.1.1, .int .i64 s.1.2, .int .i64 s.2]
    | 9 => v = .agg #[.int .i64 1, .int .i64 0, .int .i64 0]
    | 10 => v = .bool false
    | 11 => v = .bool false
    | _ => True) (by kernel_rfl) (by kernel_rfl) (by kernel_rfl) (by kernel_rfl) (by decide) ?htla ?hfra ?staba ?stepsa ?donea
  case htla => simp only [List.drop_succ_cons, List.drop_zero]; rfl
  case hfra => intro vals; simp only [putAll, dstAt, Act.put, List.getElem?_toArray, List.getElem?_cons_zero, List.getElem?_cons_succ, Option.bind_some, List.setIfInBounds_toArray, List.set_cons_zero, List.set_cons_succ]; rfl
  case staba =>
    intro i v wa wb h
    try dsimp only
    split <;> first | exact id | fail
  case stepsa =>
    refine ⟨?_, ?_, ?_, ?_, ?_, ?_, ?_, ?_, ?_, ?_, ?_, ?_, trivial⟩
    · intro vals wr hR hp K hK
      dsimp only at hK ⊢
      clear hp
      unfold RunsOp
      go_simp
      exact hK.out _ _ ⟨_, rfl, Only.refl _ _, rfl⟩
    · intro vals wr hR hp K hK
      dsimp only at hK ⊢
      obtain ⟨p0, -⟩ := hp
      replace p0 := p0 rfl
      dsimp only at p0
      rw [p0] at hK ⊢
      clear p0
      unfold RunsOp
      go_simp
      exact hK.out _ _ ⟨_, rfl, Only.refl _ _, rfl⟩
    · intro vals wr hR hp K hK
      dsimp only at hK ⊢
      obtain ⟨p1, -⟩ := hp
      replace p1 := p1 rfl
      dsimp only at p1
      rw [p1] at hK ⊢
      clear p1
      unfold RunsOp
      go_simp
      exact hK.out _ _ ⟨_, rfl, Only.refl _ _, rfl⟩
    · intro vals wr hR hp K hK
      dsimp only at hK ⊢
      obtain ⟨p2, -⟩ := hp
      replace p2 := p2 rfl
      dsimp only at p2
      rw [p2] at hK ⊢
      clear p2
      unfold RunsOp
      have tbB1 := hR.blk (by first | exact B1.out | exact Blk.drew B1.out) (by simp)
      obtain ⟨cB10, cB11, cB12, clB1⟩ := tbB1.facts3
      clear tbB1
      go_simp
      exact hK.out _ _ ⟨_, rfl, Only.refl _ _, rfl⟩
    · intro vals wr hR hp K hK
      dsimp only at hK ⊢
      obtain ⟨p3, p2, -, -⟩ := hp
      replace p3 := p3 rfl
      replace p2 := p2 rfl
      dsimp only at p3 p2
      rw [p3, p2] at hK ⊢
      clear p3 p2
      unfold RunsOp
      go_simp
      refine (strightr os RS.out _).mono ?_
      rintro e w2 ⟨rfl, o2⟩
      exact hK.out _ _ ⟨_, rfl, o2, rfl⟩
    · intro vals wr hR hp K hK
      dsimp only at hK ⊢
      obtain ⟨p4, p2, -⟩ := hp
      replace p4 := p4 rfl
      replace p2 := p2 rfl
      dsimp only at p4 p2
      obtain p4 := p4
      rw [p4, p2] at hK ⊢
      clear p4 p2
      unfold RunsOp
      go_simp
      exact hK.out _ _ ⟨_, rfl, Only.refl _ _, rfl⟩
    · intro vals wr hR hp K hK
      dsimp only at hK ⊢
      obtain ⟨p2, p5, -⟩ := hp
      replace p2 := p2 rfl
      replace p5 := p5 rfl
      dsimp only at p2 p5
      rw [p2, p5] at hK ⊢
      clear p2 p5
      unfold RunsOp
      go_simp
      exact hK.out _ _ ⟨_, rfl, Only.refl _ _, rfl⟩
    · intro vals wr hR hp K hK
      dsimp only at hK ⊢
      obtain ⟨p6, -, -⟩ := hp
      replace p6 := p6 rfl
      dsimp only at p6
      rw [p6] at hK ⊢
      clear p6
      unfold RunsOp
      go_simp
      exact hK.out _ _ ⟨_, rfl, Only.refl _ _, rfl⟩
    · intro vals wr hR hp K hK
      dsimp only at hK ⊢
      obtain ⟨p7, -⟩ := hp
      replace p7 := p7 rfl
      dsimp only at p7
      rw [p7] at hK ⊢
      clear p7
      unfold RunsOp
      have tbB1 := hR.blk (by first | exact B1.out | exact Blk.drew B1.out) (by simp)
      obtain ⟨cB10, cB11, cB12, clB1⟩ := tbB1.facts3
      clear tbB1
      go_simp
      exact hK.out _ _ ⟨_, rfl, Only.refl _ _, rfl⟩
    · intro vals wr hR hp K hK
      dsimp only at hK ⊢
      obtain ⟨p7, -, -⟩ := hp
      replace p7 := p7 rfl
      dsimp only at p7
      rw [p7] at hK ⊢
      clear p7
      unfold RunsOp
      go_simp
      refine (stnever_any _).mono ?_
      rintro e w2 ⟨rfl, o2⟩
      exact hK.out _ _ ⟨_, rfl, o2, rfl⟩
    · intro vals wr hR hp K hK
      dsimp only at hK ⊢
      obtain ⟨p8, p9, p7, -⟩ := hp
      replace p8 := p8 rfl
      replace p9 := p9 rfl
      replace p7 := p7 rfl
      dsimp only at p8 p9 p7
      obtain p9 := p9
      rw [p8, p9, p7] at hK ⊢
      clear p8 p9 p7
      unfold RunsOp
      go_simp
      exact hK.out _ _ ⟨_, rfl, Only.refl _ _, rfl⟩
    · intro vals wr hR hp K hK
      dsimp only at hK ⊢
      obtain ⟨p7, p10, -⟩ := hp
      replace p7 := p7 rfl
      replace p10 := p10 rfl
      dsimp only at p7 p10
      rw [p7, p10] at hK ⊢
      clear p7 p10
      unfold RunsOp
      go_simp
      exact hK.out _ _ ⟨_, rfl, Only.refl _ _, rfl⟩
  intro vals w2 hR hF
  have f11 : vals 11 = .bool false := hF 11 (by decide)
  rw [f11]
  clear hF f11
  refine wpList_nil ?_
  have BGx := hR.blk (t := 66) (cs := #[.int .i64 room, .slice A 0 c]) (g := g) (by first | exact BG.out | exact Blk.drewN BG.out _ | exact Blk.drew BG.out) (by simp)
  have B1x := hR.blk (t := 34) (cs := #[.int .i64 s.1.1, .int .i64 s.1.2, .int .i64 s.2]) (g := w.heap.size) (by first | exact B1.out | exact Blk.drewN B1.out _ | exact Blk.drew B1.out) (by simp)
  have O2x : Only [] w w2 := (by first | exact Only.trans O1.out hR (by simp) | exact Only.trans (Only.drewN O1.out _) hR (by simp) | exact Only.trans (Only.drew O1.out) hR (by simp))
  obtain ⟨BGc0, BGc1, BGl⟩ := BGx.facts2
  obtain ⟨B1c0, B1c1, B1c2, B1l⟩ := B1x.facts3
  clear BG B1 O1 hR
  have BG := Lib.hid BGx; have B1 := Lib.hid B1x; have O2 := Lib.hid O2x
  clear BGx B1x O2x
  go_wp2_with (fail)
  refine wp_region_facts 16 [] (fr := ?frb) (tl := ?tlb) (fun i v wv => match i with
    | 0 => v = .int .i64 0
    | 1 => v = .bool false
    | 2 => v = .bool false
    | 3 => v = undef
    | 4 => v = undef
    | 5 => v = undef
    | 6 => v = undef
    | 7 => v = undef
    | 8 => v = undef
    | 9 => v = undef
    | 10 => v = undef
    | 11 => v = undef
    | 12 => v = undef
    | 13 => v = undef
    | 14 => v = undef
    | 15 => v = .bool false
    | _ => True) (by kernel_rfl) (by kernel_rfl) (by kernel_rfl) (by kernel_rfl) (by decide) ?htlb ?hfrb ?stabb ?stepsb ?doneb
  case htlb => simp only [List.drop_succ_cons, List.drop_zero]; rfl
  case hfrb => intro vals; simp only [putAll, dstAt, Act.put, List.getElem?_toArray, List.getElem?_cons_zero, List.getElem?_cons_succ, Option.bind_some, List.setIfInBounds_toArray, List.set_cons_zero, List.set_cons_succ]; rfl
  case stabb =>
    intro i v wa wb h
    try dsimp only
    split <;> first | exact id | fail
  case stepsb =>
    refine ⟨?_, ?_, ?_, ?_, ?_, ?_, ?_, ?_, ?_, ?_, ?_, ?_, ?_, ?_, ?_, ?_, trivial⟩
    · intro vals wr hR hp K hK
      dsimp only at hK ⊢
      clear hp
      unfold RunsOp
      go_simp
      exact hK.out _ _ ⟨_, rfl, Only.refl _ _, rfl⟩
    · intro vals wr hR hp K hK
      dsimp only at hK ⊢
      obtain ⟨p0, -⟩ := hp
      replace p0 := p0 rfl
      dsimp only at p0
      rw [p0] at hK ⊢
      clear p0
      unfold RunsOp
      go_simp
      exact hK.out _ _ ⟨_, rfl, Only.refl _ _, rfl⟩
    · intro vals wr hR hp K hK
      dsimp only at hK ⊢
      obtain ⟨p1, -⟩ := hp
      replace p1 := p1 rfl
      dsimp only at p1
      rw [p1] at hK ⊢
      clear p1
      unfold RunsOp
      go_simp
      exact hK.out _ _ ⟨_, rfl, Only.refl _ _, rfl⟩
    · intro vals wr hR hp K hK
      dsimp only at hK ⊢
      obtain ⟨p2, -⟩ := hp
      replace p2 := p2 rfl
      dsimp only at p2
      rw [p2] at hK ⊢
      clear p2
      unfold RunsOp
      go_simp
      exact hK.out _ _ ⟨_, rfl, Only.refl _ _, rfl⟩
    · intro vals wr hR hp K hK
      dsimp only at hK ⊢
      obtain ⟨p3, p2, -⟩ := hp
      replace p3 := p3 rfl
      replace p2 := p2 rfl
      dsimp only at p3 p2
      rw [p3, p2] at hK ⊢
      clear p3 p2
      unfold RunsOp
      go_simp
      exact hK.out _ _ ⟨_, rfl, Only.refl _ _, rfl⟩
    · intro vals wr hR hp K hK
      dsimp only at hK ⊢
      obtain ⟨p4, p2, -⟩ := hp
      replace p4 := p4 rfl
      replace p2 := p2 rfl
      dsimp only at p4 p2
      rw [p4, p2] at hK ⊢
      clear p4 p2
      unfold RunsOp
      go_simp
      exact hK.out _ _ ⟨_, rfl, Only.refl _ _, rfl⟩
    · intro vals wr hR hp K hK
      dsimp only at hK ⊢
      obtain ⟨p5, p2, -⟩ := hp
      replace p5 := p5 rfl
      replace p2 := p2 rfl
      dsimp only at p5 p2
      rw [p5, p2] at hK ⊢
      clear p5 p2
      unfold RunsOp
      go_simp
      exact hK.out _ _ ⟨_, rfl, Only.refl _ _, rfl⟩
    · intro vals wr hR hp K hK
      dsimp only at hK ⊢
      obtain ⟨p2, -⟩ := hp
      replace p2 := p2 rfl
      dsimp only at p2
      rw [p2] at hK ⊢
      clear p2
      unfold RunsOp
      go_simp
      exact hK.out _ _ ⟨_, rfl, Only.refl _ _, rfl⟩
    · intro vals wr hR hp K hK
      dsimp only at hK ⊢
      obtain ⟨p7, p2, -⟩ := hp
      replace p7 := p7 rfl
      replace p2 := p2 rfl
      dsimp only at p7 p2
      rw [p7, p2] at hK ⊢
      clear p7 p2
      unfold RunsOp
      go_simp
      exact hK.out _ _ ⟨_, rfl, Only.refl _ _, rfl⟩
    · intro vals wr hR hp K hK
      dsimp only at hK ⊢
      obtain ⟨p6, p8, p2, -⟩ := hp
      replace p6 := p6 rfl
      replace p8 := p8 rfl
      replace p2 := p2 rfl
      dsimp only at p6 p8 p2
      rw [p6, p8, p2] at hK ⊢
      clear p6 p8 p2
      unfold RunsOp
      go_simp
      exact hK.out _ _ ⟨_, rfl, Only.refl _ _, rfl⟩
    · intro vals wr hR hp K hK
      dsimp only at hK ⊢
      obtain ⟨p9, p2, -⟩ := hp
      replace p9 := p9 rfl
      replace p2 := p2 rfl
      dsimp only at p9 p2
      rw [p9, p2] at hK ⊢
      clear p9 p2
      unfold RunsOp
      go_simp
      exact hK.out _ _ ⟨_, rfl, Only.refl _ _, rfl⟩
    · intro vals wr hR hp K hK
      dsimp only at hK ⊢
      obtain ⟨p10, p2, -⟩ := hp
      replace p10 := p10 rfl
      replace p2 := p2 rfl
      dsimp only at p10 p2
      rw [p10, p2] at hK ⊢
      clear p10 p2
      unfold RunsOp
      go_simp
      exact hK.out _ _ ⟨_, rfl, Only.refl _ _, rfl⟩
    · intro vals wr hR hp K hK
      dsimp only at hK ⊢
      obtain ⟨p2, -⟩ := hp
      replace p2 := p2 rfl
      dsimp only at p2
      rw [p2] at hK ⊢
      clear p2
      unfold RunsOp
      go_simp
      exact hK.out _ _ ⟨_, rfl, Only.refl _ _, rfl⟩
    · intro vals wr hR hp K hK
      dsimp only at hK ⊢
      obtain ⟨p11, p12, p2, -, -⟩ := hp
      replace p11 := p11 rfl
      replace p12 := p12 rfl
      replace p2 := p2 rfl
      dsimp only at p11 p12 p2
      rw [p11, p12, p2] at hK ⊢
      clear p11 p12 p2
      unfold RunsOp
      go_simp
      exact hK.out _ _ ⟨_, rfl, Only.refl _ _, rfl⟩
    · intro vals wr hR hp K hK
      dsimp only at hK ⊢
      obtain ⟨p13, p2, -⟩ := hp
      replace p13 := p13 rfl
      replace p2 := p2 rfl
      dsimp only at p13 p2
      rw [p13, p2] at hK ⊢
      clear p13 p2
      unfold RunsOp
      go_simp
      exact hK.out _ _ ⟨_, rfl, Only.refl _ _, rfl⟩
    · intro vals wr hR hp K hK
      dsimp only at hK ⊢
      obtain ⟨p2, p14, -⟩ := hp
      replace p2 := p2 rfl
      replace p14 := p14 rfl
      dsimp only at p2 p14
      rw [p2, p14] at hK ⊢
      clear p2 p14
      unfold RunsOp
      go_simp
      exact hK.out _ _ ⟨_, rfl, Only.refl _ _, rfl⟩
  intro vals w3 hR hF
  have f15 : vals 15 = .bool false := hF 15 (by decide)
  rw [f15]
  clear hF f15
  refine wpList_nil ?_
  have BGx := hR.blk (t := 66) (cs := #[.int .i64 room, .slice A 0 c]) (g := g) (by first | exact BG.out | exact Blk.drewN BG.out _ | exact Blk.drew BG.out) (by simp)
  have B1x := hR.blk (t := 34) (cs := #[.int .i64 s.1.1, .int .i64 s.1.2, .int .i64 s.2]) (g := w.heap.size) (by first | exact B1.out | exact Blk.drewN B1.out _ | exact Blk.drew B1.out) (by simp)
  have O3x : Only [] w w3 := (by first | exact Only.trans O2.out hR (by simp) | exact Only.trans (Only.drewN O2.out _) hR (by simp) | exact Only.trans (Only.drew O2.out) hR (by simp))
  obtain ⟨BGc0, BGc1, BGl⟩ := BGx.facts2
  obtain ⟨B1c0, B1c1, B1c2, B1l⟩ := B1x.facts3
  clear BG B1 O2 hR
  have BG := Lib.hid BGx; have B1 := Lib.hid B1x; have O3 := Lib.hid O3x
  clear BGx B1x O3x
  go_wp2_with (fail)
  refine wp_region_facts 10 [] (fr := ?frc) (tl := ?tlc) (fun i v wv => match i with
    | 0 => v = .pointer (some ⟨g, 0, none⟩)
    | 1 => v = .pointer (some ⟨g, 0, none⟩)
    | 2 => v = .pointer (some ⟨g, 1, none⟩)
    | 3 => v = .slice A 0 c
    | 4 => v = .int .i64 0
    | 5 => v = .pointer (some ⟨g, 0, none⟩)
    | 6 => v = .pointer (some ⟨g, 0, none⟩)
    | 7 => v = .pointer (some ⟨g, 0, none⟩)
    | 8 => v = .int .i64 room
    | 9 => v = .bool true
    | _ => True) (by kernel_rfl) (by kernel_rfl) (by kernel_rfl) (by kernel_rfl) (by decide) ?htlc ?hfrc ?stabc ?stepsc ?donec
  case htlc => simp only [List.drop_succ_cons, List.drop_zero]; rfl
  case hfrc => intro vals; simp only [putAll, dstAt, Act.put, List.getElem?_toArray, List.getElem?_cons_zero, List.getElem?_cons_succ, Option.bind_some, List.setIfInBounds_toArray, List.set_cons_zero, List.set_cons_succ]; rfl
  case stabc =>
    intro i v wa wb h
    try dsimp only
    split <;> first | exact id | fail
  case stepsc =>
    refine ⟨?_, ?_, ?_, ?_, ?_, ?_, ?_, ?_, ?_, ?_, trivial⟩
    · intro vals wr hR hp K hK
      dsimp only at hK ⊢
      clear hp
      unfold RunsOp
      go_simp
      exact hK.out _ _ ⟨_, rfl, Only.refl _ _, rfl⟩
    · intro vals wr hR hp K hK
      dsimp only at hK ⊢
      obtain ⟨p0, -⟩ := hp
      replace p0 := p0 rfl
      dsimp only at p0
      rw [p0] at hK ⊢
      clear p0
      unfold RunsOp
      go_simp
      exact hK.out _ _ ⟨_, rfl, Only.refl _ _, rfl⟩
    · intro vals wr hR hp K hK
      dsimp only at hK ⊢
      obtain ⟨p1, -⟩ := hp
      replace p1 := p1 rfl
      dsimp only at p1
      rw [p1] at hK ⊢
      clear p1
      unfold RunsOp
      go_simp
      exact hK.out _ _ ⟨_, rfl, Only.refl _ _, rfl⟩
    · intro vals wr hR hp K hK
      dsimp only at hK ⊢
      obtain ⟨p2, -⟩ := hp
      replace p2 := p2 rfl
      dsimp only at p2
      rw [p2] at hK ⊢
      clear p2
      unfold RunsOp
      have tbBG := hR.blk (by first | exact BG.out | exact Blk.drew BG.out) (by simp)
      obtain ⟨cBG0, cBG1, clBG⟩ := tbBG.facts2
      clear tbBG
      go_simp
      exact hK.out _ _ ⟨_, rfl, Only.refl _ _, rfl⟩
    · intro vals wr hR hp K hK
      dsimp only at hK ⊢
      obtain ⟨p3, -⟩ := hp
      replace p3 := p3 rfl
      dsimp only at p3
      rw [p3] at hK ⊢
      clear p3
      unfold RunsOp
      go_simp
      exact hK.out _ _ ⟨_, rfl, Only.refl _ _, rfl⟩
    · intro vals wr hR hp K hK
      dsimp only at hK ⊢
      clear hp
      unfold RunsOp
      go_simp
      exact hK.out _ _ ⟨_, rfl, Only.refl _ _, rfl⟩
    · intro vals wr hR hp K hK
      dsimp only at hK ⊢
      obtain ⟨p5, -⟩ := hp
      replace p5 := p5 rfl
      dsimp only at p5
      rw [p5] at hK ⊢
      clear p5
      unfold RunsOp
      go_simp
      exact hK.out _ _ ⟨_, rfl, Only.refl _ _, rfl⟩
    · intro vals wr hR hp K hK
      dsimp only at hK ⊢
      obtain ⟨p6, -⟩ := hp
      replace p6 := p6 rfl
      dsimp only at p6
      rw [p6] at hK ⊢
      clear p6
      unfold RunsOp
      go_simp
      exact hK.out _ _ ⟨_, rfl, Only.refl _ _, rfl⟩
    · intro vals wr hR hp K hK
      dsimp only at hK ⊢
      obtain ⟨p7, -⟩ := hp
      replace p7 := p7 rfl
      dsimp only at p7
      rw [p7] at hK ⊢
      clear p7
      unfold RunsOp
      have tbBG := hR.blk (by first | exact BG.out | exact Blk.drew BG.out) (by simp)
      obtain ⟨cBG0, cBG1, clBG⟩ := tbBG.facts2
      clear tbBG
      go_simp
      exact hK.out _ _ ⟨_, rfl, Only.refl _ _, rfl⟩
    · intro vals wr hR hp K hK
      dsimp only at hK ⊢
      obtain ⟨p4, p8, -⟩ := hp
      replace p4 := p4 rfl
      replace p8 := p8 rfl
      dsimp only at p4 p8
      rw [p4, p8] at hK ⊢
      clear p4 p8
      unfold RunsOp
      go_simp
      exact hK.out _ _ ⟨_, rfl, Only.refl _ _, rfl⟩
  intro vals w4 hR hF
  have f9 : vals 9 = .bool true := hF 9 (by decide)
  rw [f9]
  clear hF f9
  refine wpList_nil ?_
  have BGx := hR.blk (t := 66) (cs := #[.int .i64 room, .slice A 0 c]) (g := g) (by first | exact BG.out | exact Blk.drewN BG.out _ | exact Blk.drew BG.out) (by simp)
  have B1x := hR.blk (t := 34) (cs := #[.int .i64 s.1.1, .int .i64 s.1.2, .int .i64 s.2]) (g := w.heap.size) (by first | exact B1.out | exact Blk.drewN B1.out _ | exact Blk.drew B1.out) (by simp)
  have O4x : Only [] w w4 := (by first | exact Only.trans O3.out hR (by simp) | exact Only.trans (Only.drewN O3.out _) hR (by simp) | exact Only.trans (Only.drew O3.out) hR (by simp))
  obtain ⟨BGc0, BGc1, BGl⟩ := BGx.facts2
  obtain ⟨B1c0, B1c1, B1c2, B1l⟩ := B1x.facts3
  clear BG B1 O3 hR
  have BG := Lib.hid BGx; have B1 := Lib.hid B1x; have O4 := Lib.hid O4x
  clear BGx B1x O4x
  go_wp2_with (fail)
  go_ret
  exact ⟨rfl, by first | exact O4.out | exact Only.drewN O4.out _ | exact Only.drew O4.out⟩

set_option maxHeartbeats 4000000 in
theorem put_ok0 {s : St} {x : Int} {B : Nat} {g : Nat} {room : Int} {L : List En} {A : Option Addr} {c : Nat}  {w : World} (hT : TB B w g room L A c) (os : s.ok) (rs : stR s = true) (hn : s ≠ ((1, 0), 0)) (hB : B ≤ w.heap.size) (hm : L = []) (hr : decide (room ≤ 0) = false) :
    Calls Try.prog 10 #[.pointer (some ⟨g, 0, none⟩), .agg #[.int .i64 s.1.1, .int .i64 s.1.2, .int .i64 s.2], .int .i64 x] w fun e w' => e = .returned (.int .i64 0) ∧ ∃ p c', TB B w' g room (L ++ [(s, x)]) (some p) c' ∧ Only (g :: A.toList.map (·.block)) w w' ∧ (A = some p ∨ w.heap.size ≤ p.block) := by
  have O0 := Lib.hid (Only.refl [] w)
  subst hm
  have BG := Lib.hid hT.blk
  have HT := Lib.hid hT
  clear hT
  have RS := Lib.hid rs
  have hE := eq_st34F hn
  clear rs hn
  go_enter Try.func10, Try.ntmps10
  have BGy : Blk (w.alloc (.cells #[.int .i64 s.1.1, .int .i64 s.1.2, .int .i64 s.2] 34)) (g) 66 #[.int .i64 room, .slice A 0 c] := (BG.out.alloc _)
  clear BG
  have BG := Lib.hid BGy
  clear BGy
  have B1 := Lib.hid ((by have h := Blk.new w 34 #[.int .i64 s.1.1, .int .i64 s.1.2, .int .i64 s.2]; simpa using h : Blk (w.alloc (.cells #[.int .i64 s.1.1, .int .i64 s.1.2, .int .i64 s.2] 34)) (w.heap.size) 34 #[.int .i64 s.1.1, .int .i64 s.1.2, .int .i64 s.2]) : Blk (w.alloc (.cells #[.int .i64 s.1.1, .int .i64 s.1.2, .int .i64 s.2] 34)) (w.heap.size) 34 #[.int .i64 s.1.1, .int .i64 s.1.2, .int .i64 s.2])
  have O1 := Lib.hid ((O0.out.alloc _) : Only [] w (w.alloc (.cells #[.int .i64 s.1.1, .int .i64 s.1.2, .int .i64 s.2] 34)))
  clear O0
  go_wp2_with (fail)
  refine wp_region_facts 12 [] (fr := ?fra) (tl := ?tla) (fun i v wv => match i with
    | 0 => v = .pointer (some ⟨g, 0, none⟩)
    | 1 => v = .bool false
    | 2 => v = .bool false
    | 3 => v = .agg #[.int .i64 s.1.1, .int .i64 s.1.2, .int .i64 s.2]
    | 4 => v = .bool true
    | 5 => v = .bool false
    | 6 => v = .bool false
    | 7 => v = .bool false
    | 8 => v = .agg #[.int .i64 s.1.1, .int .i64 s.1.2, .int .i64 s.2]
    | 9 => v = .agg #[.int .i64 1, .int .i64 0, .int .i64 0]
    | 10 => v = .bool false
    | 11 => v = .bool false
    | _ => True) (by kernel_rfl) (by kernel_rfl) (by kernel_rfl) (by kernel_rfl) (by decide) ?htla ?hfra ?staba ?stepsa ?donea
  case htla => simp only [List.drop_succ_cons, List.drop_zero]; rfl
  case hfra => intro vals; simp only [putAll, dstAt, Act.put, List.getElem?_toArray, List.getElem?_cons_zero, List.getElem?_cons_succ, Option.bind_some, List.setIfInBounds_toArray, List.set_cons_zero, List.set_cons_succ]; rfl
  case staba =>
    intro i v wa wb h
    try dsimp only
    split <;> first | exact id | fail
  case stepsa =>
    refine ⟨?_, ?_, ?_, ?_, ?_, ?_, ?_, ?_, ?_, ?_, ?_, ?_, trivial⟩
    · intro vals wr hR hp K hK
      dsimp only at hK ⊢
      clear hp
      unfold RunsOp
      go_simp
      exact hK.out _ _ ⟨_, rfl, Only.refl _ _, rfl⟩
    · intro vals wr hR hp K hK
      dsimp only at hK ⊢
      obtain ⟨p0, -⟩ := hp
      replace p0 := p0 rfl
      dsimp only at p0
      rw [p0] at hK ⊢
      clear p0
      unfold RunsOp
      go_simp
      exact hK.out _ _ ⟨_, rfl, Only.refl _ _, rfl⟩
    · intro vals wr hR hp K hK
      dsimp only at hK ⊢
      obtain ⟨p1, -⟩ := hp
      replace p1 := p1 rfl
      dsimp only at p1
      rw [p1] at hK ⊢
      clear p1
      unfold RunsOp
      go_simp
      exact hK.out _ _ ⟨_, rfl, Only.refl _ _, rfl⟩
    · intro vals wr hR hp K hK
      dsimp only at hK ⊢
      obtain ⟨p2, -⟩ := hp
      replace p2 := p2 rfl
      dsimp only at p2
      rw [p2] at hK ⊢
      clear p2
      unfold RunsOp
      have tbB1 := hR.blk (by first | exact B1.out | exact Blk.drew B1.out) (by simp)
      obtain ⟨cB10, cB11, cB12, clB1⟩ := tbB1.facts3
      clear tbB1
      go_simp
      exact hK.out _ _ ⟨_, rfl, Only.refl _ _, rfl⟩
    · intro vals wr hR hp K hK
      dsimp only at hK ⊢
      obtain ⟨p3, p2, -, -⟩ := hp
      replace p3 := p3 rfl
      replace p2 := p2 rfl
      dsimp only at p3 p2
      rw [p3, p2] at hK ⊢
      clear p3 p2
      unfold RunsOp
      go_simp
      refine (strightr os RS.out _).mono ?_
      rintro e w2 ⟨rfl, o2⟩
      exact hK.out _ _ ⟨_, rfl, o2, rfl⟩
    · intro vals wr hR hp K hK
      dsimp only at hK ⊢
      obtain ⟨p4, p2, -⟩ := hp
      replace p4 := p4 rfl
      replace p2 := p2 rfl
      dsimp only at p4 p2
      obtain p4 := p4
      rw [p4, p2] at hK ⊢
      clear p4 p2
      unfold RunsOp
      go_simp
      exact hK.out _ _ ⟨_, rfl, Only.refl _ _, rfl⟩
    · intro vals wr hR hp K hK
      dsimp only at hK ⊢
      obtain ⟨p2, p5, -⟩ := hp
      replace p2 := p2 rfl
      replace p5 := p5 rfl
      dsimp only at p2 p5
      rw [p2, p5] at hK ⊢
      clear p2 p5
      unfold RunsOp
      go_simp
      exact hK.out _ _ ⟨_, rfl, Only.refl _ _, rfl⟩
    · intro vals wr hR hp K hK
      dsimp only at hK ⊢
      obtain ⟨p6, -, -⟩ := hp
      replace p6 := p6 rfl
      dsimp only at p6
      rw [p6] at hK ⊢
      clear p6
      unfold RunsOp
      go_simp
      exact hK.out _ _ ⟨_, rfl, Only.refl _ _, rfl⟩
    · intro vals wr hR hp K hK
      dsimp only at hK ⊢
      obtain ⟨p7, -⟩ := hp
      replace p7 := p7 rfl
      dsimp only at p7
      rw [p7] at hK ⊢
      clear p7
      unfold RunsOp
      have tbB1 := hR.blk (by first | exact B1.out | exact Blk.drew B1.out) (by simp)
      obtain ⟨cB10, cB11, cB12, clB1⟩ := tbB1.facts3
      clear tbB1
      go_simp
      exact hK.out _ _ ⟨_, rfl, Only.refl _ _, rfl⟩
    · intro vals wr hR hp K hK
      dsimp only at hK ⊢
      obtain ⟨p7, -, -⟩ := hp
      replace p7 := p7 rfl
      dsimp only at p7
      rw [p7] at hK ⊢
      clear p7
      unfold RunsOp
      go_simp
      refine (stnever_any _).mono ?_
      rintro e w2 ⟨rfl, o2⟩
      exact hK.out _ _ ⟨_, rfl, o2, rfl⟩
    · intro vals wr hR hp K hK
      dsimp only at hK ⊢
      obtain ⟨p8, p9, p7, -⟩ := hp
      replace p8 := p8 rfl
      replace p9 := p9 rfl
      replace p7 := p7 rfl
      dsimp only at p8 p9 p7
      obtain p9 := p9
      rw [p8, p9, p7] at hK ⊢
      clear p8 p9 p7
      unfold RunsOp
      go_simp
      exact hK.out _ _ ⟨_, rfl, Only.refl _ _, rfl⟩
    · intro vals wr hR hp K hK
      dsimp only at hK ⊢
      obtain ⟨p7, p10, -⟩ := hp
      replace p7 := p7 rfl
      replace p10 := p10 rfl
      dsimp only at p7 p10
      rw [p7, p10] at hK ⊢
      clear p7 p10
      unfold RunsOp
      go_simp
      exact hK.out _ _ ⟨_, rfl, Only.refl _ _, rfl⟩
  intro vals w2 hR hF
  have f11 : vals 11 = .bool false := hF 11 (by decide)
  rw [f11]
  clear hF f11
  refine wpList_nil ?_
  have BGx := hR.blk (t := 66) (cs := #[.int .i64 room, .slice A 0 c]) (g := g) (by first | exact BG.out | exact Blk.drewN BG.out _ | exact Blk.drew BG.out) (by simp)
  have B1x := hR.blk (t := 34) (cs := #[.int .i64 s.1.1, .int .i64 s.1.2, .int .i64 s.2]) (g := w.heap.size) (by first | exact B1.out | exact Blk.drewN B1.out _ | exact Blk.drew B1.out) (by simp)
  have O2x : Only [] w w2 := (by first | exact Only.trans O1.out hR (by simp) | exact Only.trans (Only.drewN O1.out _) hR (by simp) | exact Only.trans (Only.drew O1.out) hR (by simp))
  obtain ⟨BGc0, BGc1, BGl⟩ := BGx.facts2
  obtain ⟨B1c0, B1c1, B1c2, B1l⟩ := B1x.facts3
  clear BG B1 O1 hR
  have BG := Lib.hid BGx; have B1 := Lib.hid B1x; have O2 := Lib.hid O2x
  clear BGx B1x O2x
  go_wp2_with (fail)
  refine wp_region_facts 16 [] (fr := ?frb) (tl := ?tlb) (fun i v wv => match i with
    | 0 => v = .int .i64 0
    | 1 => v = .bool false
    | 2 => v = .bool false
    | 3 => v = undef
    | 4 => v = undef
    | 5 => v = undef
    | 6 => v = undef
    | 7 => v = undef
    | 8 => v = undef
    | 9 => v = undef
    | 10 => v = undef
    | 11 => v = undef
    | 12 => v = undef
    | 13 => v = undef
    | 14 => v = undef
    | 15 => v = .bool false
    | _ => True) (by kernel_rfl) (by kernel_rfl) (by kernel_rfl) (by kernel_rfl) (by decide) ?htlb ?hfrb ?stabb ?stepsb ?doneb
  case htlb => simp only [List.drop_succ_cons, List.drop_zero]; rfl
  case hfrb => intro vals; simp only [putAll, dstAt, Act.put, List.getElem?_toArray, List.getElem?_cons_zero, List.getElem?_cons_succ, Option.bind_some, List.setIfInBounds_toArray, List.set_cons_zero, List.set_cons_succ]; rfl
  case stabb =>
    intro i v wa wb h
    try dsimp only
    split <;> first | exact id | fail
  case stepsb =>
    refine ⟨?_, ?_, ?_, ?_, ?_, ?_, ?_, ?_, ?_, ?_, ?_, ?_, ?_, ?_, ?_, ?_, trivial⟩
    · intro vals wr hR hp K hK
      dsimp only at hK ⊢
      clear hp
      unfold RunsOp
      go_simp
      exact hK.out _ _ ⟨_, rfl, Only.refl _ _, rfl⟩
    · intro vals wr hR hp K hK
      dsimp only at hK ⊢
      obtain ⟨p0, -⟩ := hp
      replace p0 := p0 rfl
      dsimp only at p0
      rw [p0] at hK ⊢
      clear p0
      unfold RunsOp
      go_simp
      exact hK.out _ _ ⟨_, rfl, Only.refl _ _, rfl⟩
    · intro vals wr hR hp K hK
      dsimp only at hK ⊢
      obtain ⟨p1, -⟩ := hp
      replace p1 := p1 rfl
      dsimp only at p1
      rw [p1] at hK ⊢
      clear p1
      unfold RunsOp
      go_simp
      exact hK.out _ _ ⟨_, rfl, Only.refl _ _, rfl⟩
    · intro vals wr hR hp K hK
      dsimp only at hK ⊢
      obtain ⟨p2, -⟩ := hp
      replace p2 := p2 rfl
      dsimp only at p2
      rw [p2] at hK ⊢
      clear p2
      unfold RunsOp
      go_simp
      exact hK.out _ _ ⟨_, rfl, Only.refl _ _, rfl⟩
    · intro vals wr hR hp K hK
      dsimp only at hK ⊢
      obtain ⟨p3, p2, -⟩ := hp
      replace p3 := p3 rfl
      replace p2 := p2 rfl
      dsimp only at p3 p2
      rw [p3, p2] at hK ⊢
      clear p3 p2
      unfold RunsOp
      go_simp
      exact hK.out _ _ ⟨_, rfl, Only.refl _ _, rfl⟩
    · intro vals wr hR hp K hK
      dsimp only at hK ⊢
      obtain ⟨p4, p2, -⟩ := hp
      replace p4 := p4 rfl
      replace p2 := p2 rfl
      dsimp only at p4 p2
      rw [p4, p2] at hK ⊢
      clear p4 p2
      unfold RunsOp
      go_simp
      exact hK.out _ _ ⟨_, rfl, Only.refl _ _, rfl⟩
    · intro vals wr hR hp K hK
      dsimp only at hK ⊢
      obtain ⟨p5, p2, -⟩ := hp
      replace p5 := p5 rfl
      replace p2 := p2 rfl
      dsimp only at p5 p2
      rw [p5, p2] at hK ⊢
      clear p5 p2
      unfold RunsOp
      go_simp
      exact hK.out _ _ ⟨_, rfl, Only.refl _ _, rfl⟩
    · intro vals wr hR hp K hK
      dsimp only at hK ⊢
      obtain ⟨p2, -⟩ := hp
      replace p2 := p2 rfl
      dsimp only at p2
      rw [p2] at hK ⊢
      clear p2
      unfold RunsOp
      go_simp
      exact hK.out _ _ ⟨_, rfl, Only.refl _ _, rfl⟩
    · intro vals wr hR hp K hK
      dsimp only at hK ⊢
      obtain ⟨p7, p2, -⟩ := hp
      replace p7 := p7 rfl
      replace p2 := p2 rfl
      dsimp only at p7 p2
      rw [p7, p2] at hK ⊢
      clear p7 p2
      unfold RunsOp
      go_simp
      exact hK.out _ _ ⟨_, rfl, Only.refl _ _, rfl⟩
    · intro vals wr hR hp K hK
      dsimp only at hK ⊢
      obtain ⟨p6, p8, p2, -⟩ := hp
      replace p6 := p6 rfl
      replace p8 := p8 rfl
      replace p2 := p2 rfl
      dsimp only at p6 p8 p2
      rw [p6, p8, p2] at hK ⊢
      clear p6 p8 p2
      unfold RunsOp
      go_simp
      exact hK.out _ _ ⟨_, rfl, Only.refl _ _, rfl⟩
    · intro vals wr hR hp K hK
      dsimp only at hK ⊢
      obtain ⟨p9, p2, -⟩ := hp
      replace p9 := p9 rfl
      replace p2 := p2 rfl
      dsimp only at p9 p2
      rw [p9, p2] at hK ⊢
      clear p9 p2
      unfold RunsOp
      go_simp
      exact hK.out _ _ ⟨_, rfl, Only.refl _ _, rfl⟩
    · intro vals wr hR hp K hK
      dsimp only at hK ⊢
      obtain ⟨p10, p2, -⟩ := hp
      replace p10 := p10 rfl
      replace p2 := p2 rfl
      dsimp only at p10 p2
      rw [p10, p2] at hK ⊢
      clear p10 p2
      unfold RunsOp
      go_simp
      exact hK.out _ _ ⟨_, rfl, Only.refl _ _, rfl⟩
    · intro vals wr hR hp K hK
      dsimp only at hK ⊢
      obtain ⟨p2, -⟩ := hp
      replace p2 := p2 rfl
      dsimp only at p2
      rw [p2] at hK ⊢
      clear p2
      unfold RunsOp
      go_simp
      exact hK.out _ _ ⟨_, rfl, Only.refl _ _, rfl⟩
    · intro vals wr hR hp K hK
      dsimp only at hK ⊢
      obtain ⟨p11, p12, p2, -, -⟩ := hp
      replace p11 := p11 rfl
      replace p12 := p12 rfl
      replace p2 := p2 rfl
      dsimp only at p11 p12 p2
      rw [p11, p12, p2] at hK ⊢
      clear p11 p12 p2
      unfold RunsOp
      go_simp
      exact hK.out _ _ ⟨_, rfl, Only.refl _ _, rfl⟩
    · intro vals wr hR hp K hK
      dsimp only at hK ⊢
      obtain ⟨p13, p2, -⟩ := hp
      replace p13 := p13 rfl
      replace p2 := p2 rfl
      dsimp only at p13 p2
      rw [p13, p2] at hK ⊢
      clear p13 p2
      unfold RunsOp
      go_simp
      exact hK.out _ _ ⟨_, rfl, Only.refl _ _, rfl⟩
    · intro vals wr hR hp K hK
      dsimp only at hK ⊢
      obtain ⟨p2, p14, -⟩ := hp
      replace p2 := p2 rfl
      replace p14 := p14 rfl
      dsimp only at p2 p14
      rw [p2, p14] at hK ⊢
      clear p2 p14
      unfold RunsOp
      go_simp
      exact hK.out _ _ ⟨_, rfl, Only.refl _ _, rfl⟩
  intro vals w3 hR hF
  have f15 : vals 15 = .bool false := hF 15 (by decide)
  rw [f15]
  clear hF f15
  refine wpList_nil ?_
  have BGx := hR.blk (t := 66) (cs := #[.int .i64 room, .slice A 0 c]) (g := g) (by first | exact BG.out | exact Blk.drewN BG.out _ | exact Blk.drew BG.out) (by simp)
  have B1x := hR.blk (t := 34) (cs := #[.int .i64 s.1.1, .int .i64 s.1.2, .int .i64 s.2]) (g := w.heap.size) (by first | exact B1.out | exact Blk.drewN B1.out _ | exact Blk.drew B1.out) (by simp)
  have O3x : Only [] w w3 := (by first | exact Only.trans O2.out hR (by simp) | exact Only.trans (Only.drewN O2.out _) hR (by simp) | exact Only.trans (Only.drew O2.out) hR (by simp))
  obtain ⟨BGc0, BGc1, BGl⟩ := BGx.facts2
  obtain ⟨B1c0, B1c1, B1c2, B1l⟩ := B1x.facts3
  clear BG B1 O2 hR
  have BG := Lib.hid BGx; have B1 := Lib.hid B1x; have O3 := Lib.hid O3x
  clear BGx B1x O3x
  go_wp2_with (fail)
  refine wp_region_facts 10 [] (fr := ?frc) (tl := ?tlc) (fun i v wv => match i with
    | 0 => v = .pointer (some ⟨g, 0, none⟩)
    | 1 => v = .pointer (some ⟨g, 0, none⟩)
    | 2 => v = .pointer (some ⟨g, 1, none⟩)
    | 3 => v = .slice A 0 c
    | 4 => v = .int .i64 0
    | 5 => v = .pointer (some ⟨g, 0, none⟩)
    | 6 => v = .pointer (some ⟨g, 0, none⟩)
    | 7 => v = .pointer (some ⟨g, 0, none⟩)
    | 8 => v = .int .i64 room
    | 9 => v = .bool false
    | _ => True) (by kernel_rfl) (by kernel_rfl) (by kernel_rfl) (by kernel_rfl) (by decide) ?htlc ?hfrc ?stabc ?stepsc ?donec
  case htlc => simp only [List.drop_succ_cons, List.drop_zero]; rfl
  case hfrc => intro vals; simp only [putAll, dstAt, Act.put, List.getElem?_toArray, List.getElem?_cons_zero, List.getElem?_cons_succ, Option.bind_some, List.setIfInBounds_toArray, List.set_cons_zero, List.set_cons_succ]; rfl
  case stabc =>
    intro i v wa wb h
    try dsimp only
    split <;> first | exact id | fail
  case stepsc =>
    refine ⟨?_, ?_, ?_, ?_, ?_, ?_, ?_, ?_, ?_, ?_, trivial⟩
    · intro vals wr hR hp K hK
      dsimp only at hK ⊢
      clear hp
      unfold RunsOp
      go_simp
      exact hK.out _ _ ⟨_, rfl, Only.refl _ _, rfl⟩
    · intro vals wr hR hp K hK
      dsimp only at hK ⊢
      obtain ⟨p0, -⟩ := hp
      replace p0 := p0 rfl
      dsimp only at p0
      rw [p0] at hK ⊢
      clear p0
      unfold RunsOp
      go_simp
      exact hK.out _ _ ⟨_, rfl, Only.refl _ _, rfl⟩
    · intro vals wr hR hp K hK
      dsimp only at hK ⊢
      obtain ⟨p1, -⟩ := hp
      replace p1 := p1 rfl
      dsimp only at p1
      rw [p1] at hK ⊢
      clear p1
      unfold RunsOp
      go_simp
      exact hK.out _ _ ⟨_, rfl, Only.refl _ _, rfl⟩
    · intro vals wr hR hp K hK
      dsimp only at hK ⊢
      obtain ⟨p2, -⟩ := hp
      replace p2 := p2 rfl
      dsimp only at p2
      rw [p2] at hK ⊢
      clear p2
      unfold RunsOp
      have tbBG := hR.blk (by first | exact BG.out | exact Blk.drew BG.out) (by simp)
      obtain ⟨cBG0, cBG1, clBG⟩ := tbBG.facts2
      clear tbBG
      go_simp
      exact hK.out _ _ ⟨_, rfl, Only.refl _ _, rfl⟩
    · intro vals wr hR hp K hK
      dsimp only at hK ⊢
      obtain ⟨p3, -⟩ := hp
      replace p3 := p3 rfl
      dsimp only at p3
      rw [p3] at hK ⊢
      clear p3
      unfold RunsOp
      go_simp
      exact hK.out _ _ ⟨_, rfl, Only.refl _ _, rfl⟩
    · intro vals wr hR hp K hK
      dsimp only at hK ⊢
      clear hp
      unfold RunsOp
      go_simp
      exact hK.out _ _ ⟨_, rfl, Only.refl _ _, rfl⟩
    · intro vals wr hR hp K hK
      dsimp only at hK ⊢
      obtain ⟨p5, -⟩ := hp
      replace p5 := p5 rfl
      dsimp only at p5
      rw [p5] at hK ⊢
      clear p5
      unfold RunsOp
      go_simp
      exact hK.out _ _ ⟨_, rfl, Only.refl _ _, rfl⟩
    · intro vals wr hR hp K hK
      dsimp only at hK ⊢
      obtain ⟨p6, -⟩ := hp
      replace p6 := p6 rfl
      dsimp only at p6
      rw [p6] at hK ⊢
      clear p6
      unfold RunsOp
      go_simp
      exact hK.out _ _ ⟨_, rfl, Only.refl _ _, rfl⟩
    · intro vals wr hR hp K hK
      dsimp only at hK ⊢
      obtain ⟨p7, -⟩ := hp
      replace p7 := p7 rfl
      dsimp only at p7
      rw [p7] at hK ⊢
      clear p7
      unfold RunsOp
      have tbBG := hR.blk (by first | exact BG.out | exact Blk.drew BG.out) (by simp)
      obtain ⟨cBG0, cBG1, clBG⟩ := tbBG.facts2
      clear tbBG
      go_simp
      exact hK.out _ _ ⟨_, rfl, Only.refl _ _, rfl⟩
    · intro vals wr hR hp K hK
      dsimp only at hK ⊢
      obtain ⟨p4, p8, -⟩ := hp
      replace p4 := p4 rfl
      replace p8 := p8 rfl
      dsimp only at p4 p8
      rw [p4, p8] at hK ⊢
      clear p4 p8
      unfold RunsOp
      go_simp
      exact hK.out _ _ ⟨_, rfl, Only.refl _ _, rfl⟩
  intro vals w4 hR hF
  have f9 : vals 9 = .bool false := hF 9 (by decide)
  rw [f9]
  clear hF f9
  refine wpList_nil ?_
  have BGx := hR.blk (t := 66) (cs := #[.int .i64 room, .slice A 0 c]) (g := g) (by first | exact BG.out | exact Blk.drewN BG.out _ | exact Blk.drew BG.out) (by simp)
  have B1x := hR.blk (t := 34) (cs := #[.int .i64 s.1.1, .int .i64 s.1.2, .int .i64 s.2]) (g := w.heap.size) (by first | exact B1.out | exact Blk.drewN B1.out _ | exact Blk.drew B1.out) (by simp)
  have O4x : Only [] w w4 := (by first | exact Only.trans O3.out hR (by simp) | exact Only.trans (Only.drewN O3.out _) hR (by simp) | exact Only.trans (Only.drew O3.out) hR (by simp))
  obtain ⟨BGc0, BGc1, BGl⟩ := BGx.facts2
  obtain ⟨B1c0, B1c1, B1c2, B1l⟩ := B1x.facts3
  clear BG B1 O3 hR
  have BG := Lib.hid BGx; have B1 := Lib.hid B1x; have O4 := Lib.hid O4x
  clear BGx B1x O4x
  have hown := (HT.out.keep O4.out).own
  have hlw := O4.out.size
  have hT4 := HT.out.keep O4.out
  have hne := owns_ne hT4.own hT4.blk (by decide)
  have hneB := owns_ne hT4.own B1.out (by decide)
  obtain ⟨gg, cap, w5, hrun, how5, o5, hg5⟩ := run_append4 (P := Try.prog) 71 64 Try.underlying64 en_info rfl (show World.ownsRow w4.drew _ _ _ _ _ _ from hown) (s, x) (show B ≤ w4.heap.size by omega) (by simp [maxLen]) (by simp)
  have hrun : Sem.run Try.prog (Builtin.append_ #[64, 64] 64 #[.slice A 0 c, .slice (some ⟨w4.heap.size, 0, none⟩) 1 1]) ((w4.alloc (.cells #[.int .i64 s.1.1, .int .i64 s.1.2, .int .i64 s.2, .int .i64 x] 71)).drew) = .ok (.slice (some ⟨gg, 0, none⟩) (0 + 1) cap) w5 := hrun
  have hgn : g ∉ (Value.ownBlock (.slice A 0 c)).toList := fun h => hne (by simpa using h)
  have hsn : w.heap.size ∉ (Value.ownBlock (.slice A 0 c)).toList := fun h => hneB (by simpa using h)
  have bg5 := o5.blk (show Blk w4.drew _ _ _ from BG.out) hgn
  have bs5 := o5.blk (show Blk w4.drew _ _ _ from B1.out) hsn
  have hne5 := owns_ne how5 bg5 (by decide)
  obtain ⟨q0, q1, ql⟩ := bg5.facts2
  obtain ⟨q2, q3, q4, q5⟩ := bs5.facts3
  have fr := bg5.frozen 1
  have HOW := Lib.hid how5
  have HO5 := Lib.hid o5
  have HG5 := Lib.hid hg5
  have HB5 := Lib.hid bg5
  have HNE := Lib.hid hne5
  clear how5 o5 hg5 bg5 bs5 hne hneB hgn hsn hown hT4 hne5
  have hgs : ¬ g = w.heap.size := fun h => B1.out.ne_ BG.out (by decide) h.symm
  go_wp2_with (fail)
  refine wp_region_held_drew (S := (fun w' => w'.cell? ⟨w.heap.size, 0, none⟩ = some (.int .i64 s.1.1) ∧ w'.cell? ⟨w.heap.size, 1, none⟩ = some (.int .i64 s.1.2) ∧ w'.cell? ⟨w.heap.size, 2, none⟩ = some (.int .i64 s.2))) (by kernel_rfl) ?_ (fun hHeld => ?_)
  · (refine ⟨?_, ?_, ?_⟩ <;> (go_simp; done))
  refine wpAnyH_take (i := 0) (v := ?_) rfl (by kernel_rfl) (by kernel_rfl) (by kernel_rfl) (fun _ _ _ h => h) (Or.inl ⟨by kernel_rfl, ?_⟩) hHeld ?_
  rotate_left
  · (intro w hSw; (try dsimp only at hSw); go_simp; try with_reducible rfl)
  change wpAnyH _ _ _ _ _ _ _ (Act.put _ (some 51) _) _
  simp only [Act.put, List.setIfInBounds_toArray, List.set_cons_zero, List.set_cons_succ]
  refine wpAnyH_take (i := 1) (v := ?_) rfl (by kernel_rfl) (by kernel_rfl) (by kernel_rfl) (fun _ _ _ h => h) (Or.inl ⟨by kernel_rfl, ?_⟩) hHeld ?_
  rotate_left
  · (intro w hSw; (try dsimp only at hSw); go_simp; try with_reducible rfl)
  change wpAnyH _ _ _ _ _ _ _ (Act.put _ (some 52) _) _
  simp only [Act.put, List.setIfInBounds_toArray, List.set_cons_zero, List.set_cons_succ]
  refine wpAnyH_take (i := 2) (v := ?_) rfl (by kernel_rfl) (by kernel_rfl) (by kernel_rfl) (fun _ _ _ h => h) (Or.inl ⟨by kernel_rfl, ?_⟩) hHeld ?_
  rotate_left
  · (intro w hSw; (try dsimp only at hSw); go_simp; try with_reducible rfl)
  change wpAnyH _ _ _ _ _ _ _ (Act.put _ (some 53) _) _
  simp only [Act.put, List.setIfInBounds_toArray, List.set_cons_zero, List.set_cons_succ]
  refine wpAnyH_take (i := 3) (v := ?_) rfl (by kernel_rfl) (by kernel_rfl) (by kernel_rfl) (fun _ _ _ h => h) (Or.inl ⟨by kernel_rfl, ?_⟩) hHeld ?_
  rotate_left
  · (intro w hSw; (try dsimp only at hSw); go_simp; try with_reducible rfl)
  change wpAnyH _ _ _ _ _ _ _ (Act.put _ (some 54) _) _
  simp only [Act.put, List.setIfInBounds_toArray, List.set_cons_zero, List.set_cons_succ]
  refine wpAnyH_take (i := 5) (v := ?_) rfl (by kernel_rfl) (by kernel_rfl) (by kernel_rfl) (fun _ _ _ h => h) (Or.inl ⟨by kernel_rfl, ?_⟩) hHeld ?_
  rotate_left
  · (intro w hSw; (try dsimp only at hSw); go_simp; try with_reducible rfl)
  change wpAnyH _ _ _ _ _ _ _ (Act.put _ (some 56) _) _
  simp only [Act.put, List.setIfInBounds_toArray, List.set_cons_zero, List.set_cons_succ]
  refine wpAnyH_take (i := 6) (v := ?_) rfl (by kernel_rfl) (by kernel_rfl) (by kernel_rfl) (fun _ _ _ h => h) (Or.inl ⟨by kernel_rfl, ?_⟩) hHeld ?_
  rotate_left
  · (intro w hSw; (try dsimp only at hSw); go_simp; try with_reducible rfl)
  change wpAnyH _ _ _ _ _ _ _ (Act.put _ (some 57) _) _
  simp only [Act.put, List.setIfInBounds_toArray, List.set_cons_zero, List.set_cons_succ]
  refine wpAnyH_take (i := 7) (v := ?_) rfl (by kernel_rfl) (by kernel_rfl) (by kernel_rfl) (fun _ _ _ h => h) (Or.inl ⟨by kernel_rfl, ?_⟩) hHeld ?_
  rotate_left
  · (intro w hSw; (try dsimp only at hSw); go_simp; try with_reducible rfl)
  change wpAnyH _ _ _ _ _ _ _ (Act.put _ (some 58) _) _
  simp only [Act.put, List.setIfInBounds_toArray, List.set_cons_zero, List.set_cons_succ]
  refine wpAnyH_ready (rs := [4, 8]) (by kernel_rfl) (by simp) ?_
  refine AllReadyH.cons rfl (fun K hK => ?_) (AllReadyH.cons rfl (fun K hK => ?_) AllReadyH.nil)
  · go_simp
    refine hK.out _ _ ?_ (fun hHeld2 => ?_)
    · (refine ⟨?_, ?_, ?_⟩ <;> (go_simp; done))
    clear hK K hHeld
    have hHeld := hHeld2; clear hHeld2
    try simp only [Act.put, List.setIfInBounds_toArray, List.set_cons_zero, List.set_cons_succ]
    refine wpAnyH_ready (rs := [8]) (by kernel_rfl) (by simp) ?_
    refine AllReadyH.cons rfl (fun K hK => ?_) AllReadyH.nil
    go_simp
    refine hK.out _ _ ?_ (fun hHeld2 => ?_)
    · (refine ⟨?_, ?_, ?_⟩ <;> (go_simp; done))
    clear hK K hHeld
    have hHeld := hHeld2; clear hHeld2
    try simp only [Act.put, List.setIfInBounds_toArray, List.set_cons_zero, List.set_cons_succ]
    refine wpAnyH_ready (rs := [9]) (by kernel_rfl) (by simp) ?_
    refine AllReadyH.cons rfl (fun K hK => ?_) AllReadyH.nil
    rw [if_pos (by kernel_rfl)]
    refine wp_append_run hrun (.tmp 55) (.tmp 59) rfl rfl rfl rfl ?_
    refine hK.out _ _ ?_ (fun hHeld2 => ?_)
    · exact ⟨q2, q3, q4⟩
    clear hK K hHeld
    have hHeld := hHeld2; clear hHeld2
    try simp only [Act.put, List.setIfInBounds_toArray, List.set_cons_zero, List.set_cons_succ]
    refine wpAnyH_take (i := 10) (v := ?_) rfl (by kernel_rfl) (by kernel_rfl) (by kernel_rfl) (fun _ _ _ h => h) (Or.inl ⟨by kernel_rfl, ?_⟩) hHeld ?_
    rotate_left
    · (intro w hSw; (try dsimp only at hSw); go_simp; try with_reducible rfl)
    change wpAnyH _ _ _ _ _ _ _ (Act.put _ (some 61) _) _
    simp only [Act.put, List.setIfInBounds_toArray, List.set_cons_zero, List.set_cons_succ]
    refine wpAnyH_take (i := 11) (v := ?_) rfl (by kernel_rfl) (by kernel_rfl) (by kernel_rfl) (fun _ _ _ h => h) (Or.inl ⟨by kernel_rfl, ?_⟩) hHeld ?_
    rotate_left
    · (intro w hSw; (try dsimp only at hSw); go_simp; try with_reducible rfl)
    change wpAnyH _ _ _ _ _ _ _ (Act.put _ (some 62) _) _
    simp only [Act.put, List.setIfInBounds_toArray, List.set_cons_zero, List.set_cons_succ]
    refine wpAnyH_ready (rs := [12]) (by kernel_rfl) (by simp) ?_
    refine AllReadyH.cons rfl (fun K hK => ?_) AllReadyH.nil
    go_simp
    refine hK.out _ _ ?_ (fun hHeld2 => ?_)
    · (refine ⟨?_, ?_, ?_⟩ <;> (go_simp; done))
    clear hK K hHeld
    have hHeld := hHeld2; clear hHeld2
    try simp only [Act.put, List.setIfInBounds_toArray, List.set_cons_zero, List.set_cons_succ]
    refine wpAnyH_done (by kernel_rfl) ?_ _
    go_wp2_with (fail)
    go_ret
    exact ⟨rfl, put_fin rfl HT.out O4.out HB5.out HOW.out HO5.out HG5.out HNE.out⟩
  · go_simp
    refine hK.out _ _ ?_ (fun hHeld2 => ?_)
    · (refine ⟨?_, ?_, ?_⟩ <;> (go_simp; done))
    clear hK K hHeld
    have hHeld := hHeld2; clear hHeld2
    try simp only [Act.put, List.setIfInBounds_toArray, List.set_cons_zero, List.set_cons_succ]
    refine wpAnyH_ready (rs := [4]) (by kernel_rfl) (by simp) ?_
    refine AllReadyH.cons rfl (fun K hK => ?_) AllReadyH.nil
    go_simp
    refine hK.out _ _ ?_ (fun hHeld2 => ?_)
    · (refine ⟨?_, ?_, ?_⟩ <;> (go_simp; done))
    clear hK K hHeld
    have hHeld := hHeld2; clear hHeld2
    try simp only [Act.put, List.setIfInBounds_toArray, List.set_cons_zero, List.set_cons_succ]
    refine wpAnyH_ready (rs := [9]) (by kernel_rfl) (by simp) ?_
    refine AllReadyH.cons rfl (fun K hK => ?_) AllReadyH.nil
    rw [if_pos (by kernel_rfl)]
    refine wp_append_run hrun (.tmp 55) (.tmp 59) rfl rfl rfl rfl ?_
    refine hK.out _ _ ?_ (fun hHeld2 => ?_)
    · exact ⟨q2, q3, q4⟩
    clear hK K hHeld
    have hHeld := hHeld2; clear hHeld2
    try simp only [Act.put, List.setIfInBounds_toArray, List.set_cons_zero, List.set_cons_succ]
    refine wpAnyH_take (i := 10) (v := ?_) rfl (by kernel_rfl) (by kernel_rfl) (by kernel_rfl) (fun _ _ _ h => h) (Or.inl ⟨by kernel_rfl, ?_⟩) hHeld ?_
    rotate_left
    · (intro w hSw; (try dsimp only at hSw); go_simp; try with_reducible rfl)
    change wpAnyH _ _ _ _ _ _ _ (Act.put _ (some 61) _) _
    simp only [Act.put, List.setIfInBounds_toArray, List.set_cons_zero, List.set_cons_succ]
    refine wpAnyH_take (i := 11) (v := ?_) rfl (by kernel_rfl) (by kernel_rfl) (by kernel_rfl) (fun _ _ _ h => h) (Or.inl ⟨by kernel_rfl, ?_⟩) hHeld ?_
    rotate_left
    · (intro w hSw; (try dsimp only at hSw); go_simp; try with_reducible rfl)
    change wpAnyH _ _ _ _ _ _ _ (Act.put _ (some 62) _) _
    simp only [Act.put, List.setIfInBounds_toArray, List.set_cons_zero, List.set_cons_succ]
    refine wpAnyH_ready (rs := [12]) (by kernel_rfl) (by simp) ?_
    refine AllReadyH.cons rfl (fun K hK => ?_) AllReadyH.nil
    go_simp
    refine hK.out _ _ ?_ (fun hHeld2 => ?_)
    · (refine ⟨?_, ?_, ?_⟩ <;> (go_simp; done))
    clear hK K hHeld
    have hHeld := hHeld2; clear hHeld2
    try simp only [Act.put, List.setIfInBounds_toArray, List.set_cons_zero, List.set_cons_succ]
    refine wpAnyH_done (by kernel_rfl) ?_ _
    go_wp2_with (fail)
    go_ret
    exact ⟨rfl, put_fin rfl HT.out O4.out HB5.out HOW.out HO5.out HG5.out HNE.out⟩

set_option maxHeartbeats 4000000 in
theorem put_ok1 {s : St} {x : Int} {B : Nat} {g : Nat} {room : Int} {L : List En} {A : Option Addr} {c : Nat} {m : Nat} {l : En} {w : World} (hT : TB B w g room L A c) (os : s.ok) (rs : stR s = true) (hn : s ≠ ((1, 0), 0)) (hB : B ≤ w.heap.size) (hm : L.length = m + 1) (h20 : m ≤ 1048576) (hl : L[m]? = some l) (ol : l.1.ok) (hy : decide (stC l.1 s < 0) = true) (hr : decide (room ≤ (m : Int) + 1) = false) :
    Calls Try.prog 10 #[.pointer (some ⟨g, 0, none⟩), .agg #[.int .i64 s.1.1, .int .i64 s.1.2, .int .i64 s.2], .int .i64 x] w fun e w' => e = .returned (.int .i64 0) ∧ ∃ p c', TB B w' g room (L ++ [(s, x)]) (some p) c' ∧ Only (g :: A.toList.map (·.block)) w w' ∧ (A = some p ∨ w.heap.size ≤ p.block) := by
  have O0 := Lib.hid (Only.refl [] w)
  have hw64 : IntKind.i64.wrap (m : Int) = (m : Int) := by rw [IntKind.wrap_i64]; omega
  have hmm : (m : Int) < (m : Int) + 1 := by omega
  have hw := hT.own
  have hbk := hT.blk
  rw [hm] at hw hbk
  obtain ⟨b, rfl, hb, -, c0, c1, c2, c3⟩ := own_cell hm.symm hw hl
  have BG := Lib.hid hbk
  have HC0 := Lib.hid c0
  have HC1 := Lib.hid c1
  have HC2 := Lib.hid c2
  have HY := Lib.hid hy
  clear c0 c1 c2 c3 hw hbk hy
  have HT := Lib.hid hT
  clear hT
  have RS := Lib.hid rs
  have hE := eq_st34F hn
  clear rs hn
  go_enter Try.func10, Try.ntmps10
  have BGy : Blk (w.alloc (.cells #[.int .i64 s.1.1, .int .i64 s.1.2, .int .i64 s.2] 34)) (g) 66 #[.int .i64 room, .slice (some ⟨b, 0, none⟩) (m + 1) c] := (BG.out.alloc _)
  clear BG
  have BG := Lib.hid BGy
  clear BGy
  have B1 := Lib.hid ((by have h := Blk.new w 34 #[.int .i64 s.1.1, .int .i64 s.1.2, .int .i64 s.2]; simpa using h : Blk (w.alloc (.cells #[.int .i64 s.1.1, .int .i64 s.1.2, .int .i64 s.2] 34)) (w.heap.size) 34 #[.int .i64 s.1.1, .int .i64 s.1.2, .int .i64 s.2]) : Blk (w.alloc (.cells #[.int .i64 s.1.1, .int .i64 s.1.2, .int .i64 s.2] 34)) (w.heap.size) 34 #[.int .i64 s.1.1, .int .i64 s.1.2, .int .i64 s.2])
  have O1 := Lib.hid ((O0.out.alloc _) : Only [] w (w.alloc (.cells #[.int .i64 s.1.1, .int .i64 s.1.2, .int .i64 s.2] 34)))
  clear O0
  go_wp2_with (fail)
  refine wp_region_facts 12 [] (fr := ?fra) (tl := ?tla) (fun i v wv => match i with
    | 0 => v = .pointer (some ⟨g, 0, none⟩)
    | 1 => v = .bool false
    | 2 => v = .bool false
    | 3 => v = .agg #[.int .i64 s.1.1, .int .i64 s.1.2, .int .i64 s.2]
    | 4 => v = .bool true
    | 5 => v = .bool false
    | 6 => v = .bool false
    | 7 => v = .bool false
    | 8 => v = .agg #[.int .i64 s.1.1, .int .i64 s.1.2, .int .i64 s.2]
    | 9 => v = .agg #[.int .i64 1, .int .i64 0, .int .i64 0]
    | 10 => v = .bool false
    | 11 => v = .bool false
    | _ => True) (by kernel_rfl) (by kernel_rfl) (by kernel_rfl) (by kernel_rfl) (by decide) ?htla ?hfra ?staba ?stepsa ?donea
  case htla => simp only [List.drop_succ_cons, List.drop_zero]; rfl
  case hfra => intro vals; simp only [putAll, dstAt, Act.put, List.getElem?_toArray, List.getElem?_cons_zero, List.getElem?_cons_succ, Option.bind_some, List.setIfInBounds_toArray, List.set_cons_zero, List.set_cons_succ]; rfl
  case staba =>
    intro i v wa wb h
    try dsimp only
    split <;> first | exact id | fail
  case stepsa =>
    refine ⟨?_, ?_, ?_, ?_, ?_, ?_, ?_, ?_, ?_, ?_, ?_, ?_, trivial⟩
    · intro vals wr hR hp K hK
      dsimp only at hK ⊢
      clear hp
      unfold RunsOp
      go_simp
      exact hK.out _ _ ⟨_, rfl, Only.refl _ _, rfl⟩
    · intro vals wr hR hp K hK
      dsimp only at hK ⊢
      obtain ⟨p0, -⟩ := hp
      replace p0 := p0 rfl
      dsimp only at p0
      rw [p0] at hK ⊢
      clear p0
      unfold RunsOp
      go_simp
      exact hK.out _ _ ⟨_, rfl, Only.refl _ _, rfl⟩
    · intro vals wr hR hp K hK
      dsimp only at hK ⊢
      obtain ⟨p1, -⟩ := hp
      replace p1 := p1 rfl
      dsimp only at p1
      rw [p1] at hK ⊢
      clear p1
      unfold RunsOp
      go_simp
      exact hK.out _ _ ⟨_, rfl, Only.refl _ _, rfl⟩
    · intro vals wr hR hp K hK
      dsimp only at hK ⊢
      obtain ⟨p2, -⟩ := hp
      replace p2 := p2 rfl
      dsimp only at p2
      rw [p2] at hK ⊢
      clear p2
      unfold RunsOp
      have tbB1 := hR.blk (by first | exact B1.out | exact Blk.drew B1.out) (by simp)
      obtain ⟨cB10, cB11, cB12, clB1⟩ := tbB1.facts3
      clear tbB1
      go_simp
      exact hK.out _ _ ⟨_, rfl, Only.refl _ _, rfl⟩
    · intro vals wr hR hp K hK
      dsimp only at hK ⊢
      obtain ⟨p3, p2, -, -⟩ := hp
      replace p3 := p3 rfl
      replace p2 := p2 rfl
      dsimp only at p3 p2
      rw [p3, p2] at hK ⊢
      clear p3 p2
      unfold RunsOp
      go_simp
      refine (strightr os RS.out _).mono ?_
      rintro e w2 ⟨rfl, o2⟩
      exact hK.out _ _ ⟨_, rfl, o2, rfl⟩
    · intro vals wr hR hp K hK
      dsimp only at hK ⊢
      obtain ⟨p4, p2, -⟩ := hp
      replace p4 := p4 rfl
      replace p2 := p2 rfl
      dsimp only at p4 p2
      obtain p4 := p4
      rw [p4, p2] at hK ⊢
      clear p4 p2
      unfold RunsOp
      go_simp
      exact hK.out _ _ ⟨_, rfl, Only.refl _ _, rfl⟩
    · intro vals wr hR hp K hK
      dsimp only at hK ⊢
      obtain ⟨p2, p5, -⟩ := hp
      replace p2 := p2 rfl
      replace p5 := p5 rfl
      dsimp only at p2 p5
      rw [p2, p5] at hK ⊢
      clear p2 p5
      unfold RunsOp
      go_simp
      exact hK.out _ _ ⟨_, rfl, Only.refl _ _, rfl⟩
    · intro vals wr hR hp K hK
      dsimp only at hK ⊢
      obtain ⟨p6, -, -⟩ := hp
      replace p6 := p6 rfl
      dsimp only at p6
      rw [p6] at hK ⊢
      clear p6
      unfold RunsOp
      go_simp
      exact hK.out _ _ ⟨_, rfl, Only.refl _ _, rfl⟩
    · intro vals wr hR hp K hK
      dsimp only at hK ⊢
      obtain ⟨p7, -⟩ := hp
      replace p7 := p7 rfl
      dsimp only at p7
      rw [p7] at hK ⊢
      clear p7
      unfold RunsOp
      have tbB1 := hR.blk (by first | exact B1.out | exact Blk.drew B1.out) (by simp)
      obtain ⟨cB10, cB11, cB12, clB1⟩ := tbB1.facts3
      clear tbB1
      go_simp
      exact hK.out _ _ ⟨_, rfl, Only.refl _ _, rfl⟩
    · intro vals wr hR hp K hK
      dsimp only at hK ⊢
      obtain ⟨p7, -, -⟩ := hp
      replace p7 := p7 rfl
      dsimp only at p7
      rw [p7] at hK ⊢
      clear p7
      unfold RunsOp
      go_simp
      refine (stnever_any _).mono ?_
      rintro e w2 ⟨rfl, o2⟩
      exact hK.out _ _ ⟨_, rfl, o2, rfl⟩
    · intro vals wr hR hp K hK
      dsimp only at hK ⊢
      obtain ⟨p8, p9, p7, -⟩ := hp
      replace p8 := p8 rfl
      replace p9 := p9 rfl
      replace p7 := p7 rfl
      dsimp only at p8 p9 p7
      obtain p9 := p9
      rw [p8, p9, p7] at hK ⊢
      clear p8 p9 p7
      unfold RunsOp
      go_simp
      exact hK.out _ _ ⟨_, rfl, Only.refl _ _, rfl⟩
    · intro vals wr hR hp K hK
      dsimp only at hK ⊢
      obtain ⟨p7, p10, -⟩ := hp
      replace p7 := p7 rfl
      replace p10 := p10 rfl
      dsimp only at p7 p10
      rw [p7, p10] at hK ⊢
      clear p7 p10
      unfold RunsOp
      go_simp
      exact hK.out _ _ ⟨_, rfl, Only.refl _ _, rfl⟩
  intro vals w2 hR hF
  have f11 : vals 11 = .bool false := hF 11 (by decide)
  rw [f11]
  clear hF f11
  refine wpList_nil ?_
  have BGx := hR.blk (t := 66) (cs := #[.int .i64 room, .slice (some ⟨b, 0, none⟩) (m + 1) c]) (g := g) (by first | exact BG.out | exact Blk.drewN BG.out _ | exact Blk.drew BG.out) (by simp)
  have B1x := hR.blk (t := 34) (cs := #[.int .i64 s.1.1, .int .i64 s.1.2, .int .i64 s.2]) (g := w.heap.size) (by first | exact B1.out | exact Blk.drewN B1.out _ | exact Blk.drew B1.out) (by simp)
  have O2x : Only [] w w2 := (by first | exact Only.trans O1.out hR (by simp) | exact Only.trans (Only.drewN O1.out _) hR (by simp) | exact Only.trans (Only.drew O1.out) hR (by simp))
  obtain ⟨BGc0, BGc1, BGl⟩ := BGx.facts2
  obtain ⟨B1c0, B1c1, B1c2, B1l⟩ := B1x.facts3
  clear BG B1 O1 hR
  have BG := Lib.hid BGx; have B1 := Lib.hid B1x; have O2 := Lib.hid O2x
  clear BGx B1x O2x
  have HC0' := (O2.out.cell (p := ⟨b, m * 4, none⟩) hb (by simp)).trans HC0.out
  have HC1' := (O2.out.cell (p := ⟨b, m * 4 + 1, none⟩) hb (by simp)).trans HC1.out
  have HC2' := (O2.out.cell (p := ⟨b, m * 4 + 2, none⟩) hb (by simp)).trans HC2.out
  have hb := Nat.lt_of_lt_of_le hb O2.out.size
  clear HC0 HC1 HC2
  have HC0 := Lib.hid HC0'
  have HC1 := Lib.hid HC1'
  have HC2 := Lib.hid HC2'
  clear HC0' HC1' HC2'
  go_wp2_with (fail)
  refine wp_region_facts 16 [] (fr := ?frb) (tl := ?tlb) (fun i v wv => match i with
    | 0 => v = .int .i64 ((m : Int) + 1)
    | 1 => v = .bool true
    | 2 => v = .bool true
    | 3 => v = .pointer (some ⟨g, 0, none⟩)
    | 4 => v = .pointer (some ⟨g, 0, none⟩)
    | 5 => v = .pointer (some ⟨g, 1, none⟩)
    | 6 => v = .slice (some ⟨b, 0, none⟩) (m + 1) c
    | 7 => v = .int .i64 ((m : Int) + 1)
    | 8 => v = .int .i64 (m : Int)
    | 9 => v = .pointer (some ⟨b, m * 4, none⟩)
    | 10 => v = .pointer (some ⟨b, m * 4, none⟩)
    | 11 => v = .agg #[.int .i64 l.1.1.1, .int .i64 l.1.1.2, .int .i64 l.1.2]
    | 12 => v = .agg #[.int .i64 s.1.1, .int .i64 s.1.2, .int .i64 s.2]
    | 13 => v = .bool true
    | 14 => v = .bool (!true)
    | 15 => v = .bool (!true)
    | _ => True) (by kernel_rfl) (by kernel_rfl) (by kernel_rfl) (by kernel_rfl) (by decide) ?htlb ?hfrb ?stabb ?stepsb ?doneb
  case htlb => simp only [List.drop_succ_cons, List.drop_zero]; rfl
  case hfrb => intro vals; simp only [putAll, dstAt, Act.put, List.getElem?_toArray, List.getElem?_cons_zero, List.getElem?_cons_succ, Option.bind_some, List.setIfInBounds_toArray, List.set_cons_zero, List.set_cons_succ]; rfl
  case stabb =>
    intro i v wa wb h
    try dsimp only
    split <;> first | exact id | fail
  case stepsb =>
    refine ⟨?_, ?_, ?_, ?_, ?_, ?_, ?_, ?_, ?_, ?_, ?_, ?_, ?_, ?_, ?_, ?_, trivial⟩
    · intro vals wr hR hp K hK
      dsimp only at hK ⊢
      clear hp
      unfold RunsOp
      go_simp
      exact hK.out _ _ ⟨_, rfl, Only.refl _ _, rfl⟩
    · intro vals wr hR hp K hK
      dsimp only at hK ⊢
      obtain ⟨p0, -⟩ := hp
      replace p0 := p0 rfl
      dsimp only at p0
      rw [p0] at hK ⊢
      clear p0
      unfold RunsOp
      go_simp
      exact hK.out _ _ ⟨_, rfl, Only.refl _ _, rfl⟩
    · intro vals wr hR hp K hK
      dsimp only at hK ⊢
      obtain ⟨p1, -⟩ := hp
      replace p1 := p1 rfl
      dsimp only at p1
      rw [p1] at hK ⊢
      clear p1
      unfold RunsOp
      go_simp
      exact hK.out _ _ ⟨_, rfl, Only.refl _ _, rfl⟩
    · intro vals wr hR hp K hK
      dsimp only at hK ⊢
      obtain ⟨p2, -⟩ := hp
      replace p2 := p2 rfl
      dsimp only at p2
      rw [p2] at hK ⊢
      clear p2
      unfold RunsOp
      go_simp
      exact hK.out _ _ ⟨_, rfl, Only.refl _ _, rfl⟩
    · intro vals wr hR hp K hK
      dsimp only at hK ⊢
      obtain ⟨p3, p2, -⟩ := hp
      replace p3 := p3 rfl
      replace p2 := p2 rfl
      dsimp only at p3 p2
      rw [p3, p2] at hK ⊢
      clear p3 p2
      unfold RunsOp
      go_simp
      exact hK.out _ _ ⟨_, rfl, Only.refl _ _, rfl⟩
    · intro vals wr hR hp K hK
      dsimp only at hK ⊢
      obtain ⟨p4, p2, -⟩ := hp
      replace p4 := p4 rfl
      replace p2 := p2 rfl
      dsimp only at p4 p2
      rw [p4, p2] at hK ⊢
      clear p4 p2
      unfold RunsOp
      go_simp
      exact hK.out _ _ ⟨_, rfl, Only.refl _ _, rfl⟩
    · intro vals wr hR hp K hK
      dsimp only at hK ⊢
      obtain ⟨p5, p2, -⟩ := hp
      replace p5 := p5 rfl
      replace p2 := p2 rfl
      dsimp only at p5 p2
      rw [p5, p2] at hK ⊢
      clear p5 p2
      unfold RunsOp
      have tbBG := hR.blk (by first | exact BG.out | exact Blk.drew BG.out) (by simp)
      obtain ⟨cBG0, cBG1, clBG⟩ := tbBG.facts2
      clear tbBG
      go_simp
      exact hK.out _ _ ⟨_, rfl, Only.refl _ _, rfl⟩
    · intro vals wr hR hp K hK
      dsimp only at hK ⊢
      obtain ⟨p2, -⟩ := hp
      replace p2 := p2 rfl
      dsimp only at p2
      rw [p2] at hK ⊢
      clear p2
      unfold RunsOp
      go_simp
      exact hK.out _ _ ⟨_, rfl, Only.refl _ _, rfl⟩
    · intro vals wr hR hp K hK
      dsimp only at hK ⊢
      obtain ⟨p7, p2, -⟩ := hp
      replace p7 := p7 rfl
      replace p2 := p2 rfl
      dsimp only at p7 p2
      rw [p7, p2] at hK ⊢
      clear p7 p2
      unfold RunsOp
      go_simp
      exact hK.out _ _ ⟨_, rfl, Only.refl _ _, rfl⟩
    · intro vals wr hR hp K hK
      dsimp only at hK ⊢
      obtain ⟨p6, p8, p2, -⟩ := hp
      replace p6 := p6 rfl
      replace p8 := p8 rfl
      replace p2 := p2 rfl
      dsimp only at p6 p8 p2
      rw [p6, p8, p2] at hK ⊢
      clear p6 p8 p2
      unfold RunsOp
      go_simp
      exact hK.out _ _ ⟨_, rfl, Only.refl _ _, rfl⟩
    · intro vals wr hR hp K hK
      dsimp only at hK ⊢
      obtain ⟨p9, p2, -⟩ := hp
      replace p9 := p9 rfl
      replace p2 := p2 rfl
      dsimp only at p9 p2
      rw [p9, p2] at hK ⊢
      clear p9 p2
      unfold RunsOp
      go_simp
      exact hK.out _ _ ⟨_, rfl, Only.refl _ _, rfl⟩
    · intro vals wr hR hp K hK
      dsimp only at hK ⊢
      obtain ⟨p10, p2, -⟩ := hp
      replace p10 := p10 rfl
      replace p2 := p2 rfl
      dsimp only at p10 p2
      rw [p10, p2] at hK ⊢
      clear p10 p2
      unfold RunsOp
      have c0 := (hR.cell (p := ⟨b, m * 4, none⟩) hb (by simp)).trans HC0.out
      have c1 := (hR.cell (p := ⟨b, m * 4 + 1, none⟩) hb (by simp)).trans HC1.out
      have c2 := (hR.cell (p := ⟨b, m * 4 + 2, none⟩) hb (by simp)).trans HC2.out
      go_simp
      exact hK.out _ _ ⟨_, rfl, Only.refl _ _, rfl⟩
    · intro vals wr hR hp K hK
      dsimp only at hK ⊢
      obtain ⟨p2, -⟩ := hp
      replace p2 := p2 rfl
      dsimp only at p2
      rw [p2] at hK ⊢
      clear p2
      unfold RunsOp
      have tbB1 := hR.blk (by first | exact B1.out | exact Blk.drew B1.out) (by simp)
      obtain ⟨cB10, cB11, cB12, clB1⟩ := tbB1.facts3
      clear tbB1
      go_simp
      exact hK.out _ _ ⟨_, rfl, Only.refl _ _, rfl⟩
    · intro vals wr hR hp K hK
      dsimp only at hK ⊢
      obtain ⟨p11, p12, p2, -, -⟩ := hp
      replace p11 := p11 rfl
      replace p12 := p12 rfl
      replace p2 := p2 rfl
      dsimp only at p11 p12 p2
      rw [p11, p12, p2] at hK ⊢
      clear p11 p12 p2
      unfold RunsOp
      go_simp
      refine (less_lt l.1 s ol os HY.out _).mono ?_
      rintro e w2 ⟨rfl, o2⟩
      exact hK.out _ _ ⟨_, rfl, o2, rfl⟩
    · intro vals wr hR hp K hK
      dsimp only at hK ⊢
      obtain ⟨p13, p2, -⟩ := hp
      replace p13 := p13 rfl
      replace p2 := p2 rfl
      dsimp only at p13 p2
      obtain p13 := p13
      rw [p13, p2] at hK ⊢
      clear p13 p2
      unfold RunsOp
      go_simp
      exact hK.out _ _ ⟨_, rfl, Only.refl _ _, rfl⟩
    · intro vals wr hR hp K hK
      dsimp only at hK ⊢
      obtain ⟨p2, p14, -⟩ := hp
      replace p2 := p2 rfl
      replace p14 := p14 rfl
      dsimp only at p2 p14
      rw [p2, p14] at hK ⊢
      clear p2 p14
      unfold RunsOp
      go_simp
      exact hK.out _ _ ⟨_, rfl, Only.refl _ _, rfl⟩
  intro vals w3 hR hF
  have f15 : vals 15 = .bool (!true) := hF 15 (by decide)
  rw [f15]
  clear hF f15
  refine wpList_nil ?_
  have BGx := hR.blk (t := 66) (cs := #[.int .i64 room, .slice (some ⟨b, 0, none⟩) (m + 1) c]) (g := g) (by first | exact BG.out | exact Blk.drewN BG.out _ | exact Blk.drew BG.out) (by simp)
  have B1x := hR.blk (t := 34) (cs := #[.int .i64 s.1.1, .int .i64 s.1.2, .int .i64 s.2]) (g := w.heap.size) (by first | exact B1.out | exact Blk.drewN B1.out _ | exact Blk.drew B1.out) (by simp)
  have O3x : Only [] w w3 := (by first | exact Only.trans O2.out hR (by simp) | exact Only.trans (Only.drewN O2.out _) hR (by simp) | exact Only.trans (Only.drew O2.out) hR (by simp))
  obtain ⟨BGc0, BGc1, BGl⟩ := BGx.facts2
  obtain ⟨B1c0, B1c1, B1c2, B1l⟩ := B1x.facts3
  clear BG B1 O2 hR
  have BG := Lib.hid BGx; have B1 := Lib.hid B1x; have O3 := Lib.hid O3x
  clear BGx B1x O3x
  simp only [Bool.not_true, Bool.not_false]
  go_wp2_with (fail)
  refine wp_region_facts 10 [] (fr := ?frc) (tl := ?tlc) (fun i v wv => match i with
    | 0 => v = .pointer (some ⟨g, 0, none⟩)
    | 1 => v = .pointer (some ⟨g, 0, none⟩)
    | 2 => v = .pointer (some ⟨g, 1, none⟩)
    | 3 => v = .slice (some ⟨b, 0, none⟩) (m + 1) c
    | 4 => v = .int .i64 ((m : Int) + 1)
    | 5 => v = .pointer (some ⟨g, 0, none⟩)
    | 6 => v = .pointer (some ⟨g, 0, none⟩)
    | 7 => v = .pointer (some ⟨g, 0, none⟩)
    | 8 => v = .int .i64 room
    | 9 => v = .bool false
    | _ => True) (by kernel_rfl) (by kernel_rfl) (by kernel_rfl) (by kernel_rfl) (by decide) ?htlc ?hfrc ?stabc ?stepsc ?donec
  case htlc => simp only [List.drop_succ_cons, List.drop_zero]; rfl
  case hfrc => intro vals; simp only [putAll, dstAt, Act.put, List.getElem?_toArray, List.getElem?_cons_zero, List.getElem?_cons_succ, Option.bind_some, List.setIfInBounds_toArray, List.set_cons_zero, List.set_cons_succ]; rfl
  case stabc =>
    intro i v wa wb h
    try dsimp only
    split <;> first | exact id | fail
  case stepsc =>
    refine ⟨?_, ?_, ?_, ?_, ?_, ?_, ?_, ?_, ?_, ?_, trivial⟩
    · intro vals wr hR hp K hK
      dsimp only at hK ⊢
      clear hp
      unfold RunsOp
      go_simp
      exact hK.out _ _ ⟨_, rfl, Only.refl _ _, rfl⟩
    · intro vals wr hR hp K hK
      dsimp only at hK ⊢
      obtain ⟨p0, -⟩ := hp
      replace p0 := p0 rfl
      dsimp only at p0
      rw [p0] at hK ⊢
      clear p0
      unfold RunsOp
      go_simp
      exact hK.out _ _ ⟨_, rfl, Only.refl _ _, rfl⟩
    · intro vals wr hR hp K hK
      dsimp only at hK ⊢
      obtain ⟨p1, -⟩ := hp
      replace p1 := p1 rfl
      dsimp only at p1
      rw [p1] at hK ⊢
      clear p1
      unfold RunsOp
      go_simp
      exact hK.out _ _ ⟨_, rfl, Only.refl _ _, rfl⟩
    · intro vals wr hR hp K hK
      dsimp only at hK ⊢
      obtain ⟨p2, -⟩ := hp
      replace p2 := p2 rfl
      dsimp only at p2
      rw [p2] at hK ⊢
      clear p2
      unfold RunsOp
      have tbBG := hR.blk (by first | exact BG.out | exact Blk.drew BG.out) (by simp)
      obtain ⟨cBG0, cBG1, clBG⟩ := tbBG.facts2
      clear tbBG
      go_simp
      exact hK.out _ _ ⟨_, rfl, Only.refl _ _, rfl⟩
    · intro vals wr hR hp K hK
      dsimp only at hK ⊢
      obtain ⟨p3, -⟩ := hp
      replace p3 := p3 rfl
      dsimp only at p3
      rw [p3] at hK ⊢
      clear p3
      unfold RunsOp
      go_simp
      exact hK.out _ _ ⟨_, rfl, Only.refl _ _, rfl⟩
    · intro vals wr hR hp K hK
      dsimp only at hK ⊢
      clear hp
      unfold RunsOp
      go_simp
      exact hK.out _ _ ⟨_, rfl, Only.refl _ _, rfl⟩
    · intro vals wr hR hp K hK
      dsimp only at hK ⊢
      obtain ⟨p5, -⟩ := hp
      replace p5 := p5 rfl
      dsimp only at p5
      rw [p5] at hK ⊢
      clear p5
      unfold RunsOp
      go_simp
      exact hK.out _ _ ⟨_, rfl, Only.refl _ _, rfl⟩
    · intro vals wr hR hp K hK
      dsimp only at hK ⊢
      obtain ⟨p6, -⟩ := hp
      replace p6 := p6 rfl
      dsimp only at p6
      rw [p6] at hK ⊢
      clear p6
      unfold RunsOp
      go_simp
      exact hK.out _ _ ⟨_, rfl, Only.refl _ _, rfl⟩
    · intro vals wr hR hp K hK
      dsimp only at hK ⊢
      obtain ⟨p7, -⟩ := hp
      replace p7 := p7 rfl
      dsimp only at p7
      rw [p7] at hK ⊢
      clear p7
      unfold RunsOp
      have tbBG := hR.blk (by first | exact BG.out | exact Blk.drew BG.out) (by simp)
      obtain ⟨cBG0, cBG1, clBG⟩ := tbBG.facts2
      clear tbBG
      go_simp
      exact hK.out _ _ ⟨_, rfl, Only.refl _ _, rfl⟩
    · intro vals wr hR hp K hK
      dsimp only at hK ⊢
      obtain ⟨p4, p8, -⟩ := hp
      replace p4 := p4 rfl
      replace p8 := p8 rfl
      dsimp only at p4 p8
      rw [p4, p8] at hK ⊢
      clear p4 p8
      unfold RunsOp
      go_simp
      exact hK.out _ _ ⟨_, rfl, Only.refl _ _, rfl⟩
  intro vals w4 hR hF
  have f9 : vals 9 = .bool false := hF 9 (by decide)
  rw [f9]
  clear hF f9
  refine wpList_nil ?_
  have BGx := hR.blk (t := 66) (cs := #[.int .i64 room, .slice (some ⟨b, 0, none⟩) (m + 1) c]) (g := g) (by first | exact BG.out | exact Blk.drewN BG.out _ | exact Blk.drew BG.out) (by simp)
  have B1x := hR.blk (t := 34) (cs := #[.int .i64 s.1.1, .int .i64 s.1.2, .int .i64 s.2]) (g := w.heap.size) (by first | exact B1.out | exact Blk.drewN B1.out _ | exact Blk.drew B1.out) (by simp)
  have O4x : Only [] w w4 := (by first | exact Only.trans O3.out hR (by simp) | exact Only.trans (Only.drewN O3.out _) hR (by simp) | exact Only.trans (Only.drew O3.out) hR (by simp))
  obtain ⟨BGc0, BGc1, BGl⟩ := BGx.facts2
  obtain ⟨B1c0, B1c1, B1c2, B1l⟩ := B1x.facts3
  clear BG B1 O3 hR
  have BG := Lib.hid BGx; have B1 := Lib.hid B1x; have O4 := Lib.hid O4x
  clear BGx B1x O4x
  have hown := (HT.out.keep O4.out).own
  rw [hm] at hown
  have hlw := O4.out.size
  have hT4 := HT.out.keep O4.out
  have hne := owns_ne hT4.own hT4.blk (by decide)
  have hneB := owns_ne hT4.own B1.out (by decide)
  obtain ⟨gg, cap, w5, hrun, how5, o5, hg5⟩ := run_append4 (P := Try.prog) 71 64 Try.underlying64 en_info rfl (show World.ownsRow w4.drew _ _ _ _ _ _ from hown) (s, x) (show B ≤ w4.heap.size by omega) (by unfold maxLen; omega) (by omega)
  have hrun : Sem.run Try.prog (Builtin.append_ #[64, 64] 64 #[.slice (some ⟨b, 0, none⟩) (m + 1) c, .slice (some ⟨w4.heap.size, 0, none⟩) 1 1]) ((w4.alloc (.cells #[.int .i64 s.1.1, .int .i64 s.1.2, .int .i64 s.2, .int .i64 x] 71)).drew) = .ok (.slice (some ⟨gg, 0, none⟩) ((m + 1) + 1) cap) w5 := hrun
  have hgn : g ∉ (Value.ownBlock (.slice (some ⟨b, 0, none⟩) (m + 1) c)).toList := fun h => hne (by rw [← hm] at h; simpa using h)
  have hsn : w.heap.size ∉ (Value.ownBlock (.slice (some ⟨b, 0, none⟩) (m + 1) c)).toList := fun h => hneB (by rw [← hm] at h; simpa using h)
  have bg5 := o5.blk (show Blk w4.drew _ _ _ from BG.out) hgn
  have bs5 := o5.blk (show Blk w4.drew _ _ _ from B1.out) hsn
  have hne5 := owns_ne how5 bg5 (by decide)
  obtain ⟨q0, q1, ql⟩ := bg5.facts2
  obtain ⟨q2, q3, q4, q5⟩ := bs5.facts3
  have fr := bg5.frozen 1
  have HOW := Lib.hid how5
  have HO5 := Lib.hid o5
  have HG5 := Lib.hid hg5
  have HB5 := Lib.hid bg5
  have HNE := Lib.hid hne5
  clear how5 o5 hg5 bg5 bs5 hne hneB hgn hsn hown hT4 hne5
  have hgs : ¬ g = w.heap.size := fun h => B1.out.ne_ BG.out (by decide) h.symm
  go_wp2_with (fail)
  refine wp_region_held_drew (S := (fun w' => w'.cell? ⟨w.heap.size, 0, none⟩ = some (.int .i64 s.1.1) ∧ w'.cell? ⟨w.heap.size, 1, none⟩ = some (.int .i64 s.1.2) ∧ w'.cell? ⟨w.heap.size, 2, none⟩ = some (.int .i64 s.2))) (by kernel_rfl) ?_ (fun hHeld => ?_)
  · (refine ⟨?_, ?_, ?_⟩ <;> (go_simp; done))
  refine wpAnyH_take (i := 0) (v := ?_) rfl (by kernel_rfl) (by kernel_rfl) (by kernel_rfl) (fun _ _ _ h => h) (Or.inl ⟨by kernel_rfl, ?_⟩) hHeld ?_
  rotate_left
  · (intro w hSw; (try dsimp only at hSw); go_simp; try with_reducible rfl)
  change wpAnyH _ _ _ _ _ _ _ (Act.put _ (some 51) _) _
  simp only [Act.put, List.setIfInBounds_toArray, List.set_cons_zero, List.set_cons_succ]
  refine wpAnyH_take (i := 1) (v := ?_) rfl (by kernel_rfl) (by kernel_rfl) (by kernel_rfl) (fun _ _ _ h => h) (Or.inl ⟨by kernel_rfl, ?_⟩) hHeld ?_
  rotate_left
  · (intro w hSw; (try dsimp only at hSw); go_simp; try with_reducible rfl)
  change wpAnyH _ _ _ _ _ _ _ (Act.put _ (some 52) _) _
  simp only [Act.put, List.setIfInBounds_toArray, List.set_cons_zero, List.set_cons_succ]
  refine wpAnyH_take (i := 2) (v := ?_) rfl (by kernel_rfl) (by kernel_rfl) (by kernel_rfl) (fun _ _ _ h => h) (Or.inl ⟨by kernel_rfl, ?_⟩) hHeld ?_
  rotate_left
  · (intro w hSw; (try dsimp only at hSw); go_simp; try with_reducible rfl)
  change wpAnyH _ _ _ _ _ _ _ (Act.put _ (some 53) _) _
  simp only [Act.put, List.setIfInBounds_toArray, List.set_cons_zero, List.set_cons_succ]
  refine wpAnyH_take (i := 3) (v := ?_) rfl (by kernel_rfl) (by kernel_rfl) (by kernel_rfl) (fun _ _ _ h => h) (Or.inl ⟨by kernel_rfl, ?_⟩) hHeld ?_
  rotate_left
  · (intro w hSw; (try dsimp only at hSw); go_simp; try with_reducible rfl)
  change wpAnyH _ _ _ _ _ _ _ (Act.put _ (some 54) _) _
  simp only [Act.put, List.setIfInBounds_toArray, List.set_cons_zero, List.set_cons_succ]
  refine wpAnyH_take (i := 5) (v := ?_) rfl (by kernel_rfl) (by kernel_rfl) (by kernel_rfl) (fun _ _ _ h => h) (Or.inl ⟨by kernel_rfl, ?_⟩) hHeld ?_
  rotate_left
  · (intro w hSw; (try dsimp only at hSw); go_simp; try with_reducible rfl)
  change wpAnyH _ _ _ _ _ _ _ (Act.put _ (some 56) _) _
  simp only [Act.put, List.setIfInBounds_toArray, List.set_cons_zero, List.set_cons_succ]
  refine wpAnyH_take (i := 6) (v := ?_) rfl (by kernel_rfl) (by kernel_rfl) (by kernel_rfl) (fun _ _ _ h => h) (Or.inl ⟨by kernel_rfl, ?_⟩) hHeld ?_
  rotate_left
  · (intro w hSw; (try dsimp only at hSw); go_simp; try with_reducible rfl)
  change wpAnyH _ _ _ _ _ _ _ (Act.put _ (some 57) _) _
  simp only [Act.put, List.setIfInBounds_toArray, List.set_cons_zero, List.set_cons_succ]
  refine wpAnyH_take (i := 7) (v := ?_) rfl (by kernel_rfl) (by kernel_rfl) (by kernel_rfl) (fun _ _ _ h => h) (Or.inl ⟨by kernel_rfl, ?_⟩) hHeld ?_
  rotate_left
  · (intro w hSw; (try dsimp only at hSw); go_simp; try with_reducible rfl)
  change wpAnyH _ _ _ _ _ _ _ (Act.put _ (some 58) _) _
  simp only [Act.put, List.setIfInBounds_toArray, List.set_cons_zero, List.set_cons_succ]
  refine wpAnyH_ready (rs := [4, 8]) (by kernel_rfl) (by simp) ?_
  refine AllReadyH.cons rfl (fun K hK => ?_) (AllReadyH.cons rfl (fun K hK => ?_) AllReadyH.nil)
  · go_simp
    refine hK.out _ _ ?_ (fun hHeld2 => ?_)
    · (refine ⟨?_, ?_, ?_⟩ <;> (go_simp; done))
    clear hK K hHeld
    have hHeld := hHeld2; clear hHeld2
    try simp only [Act.put, List.setIfInBounds_toArray, List.set_cons_zero, List.set_cons_succ]
    refine wpAnyH_ready (rs := [8]) (by kernel_rfl) (by simp) ?_
    refine AllReadyH.cons rfl (fun K hK => ?_) AllReadyH.nil
    go_simp
    refine hK.out _ _ ?_ (fun hHeld2 => ?_)
    · (refine ⟨?_, ?_, ?_⟩ <;> (go_simp; done))
    clear hK K hHeld
    have hHeld := hHeld2; clear hHeld2
    try simp only [Act.put, List.setIfInBounds_toArray, List.set_cons_zero, List.set_cons_succ]
    refine wpAnyH_ready (rs := [9]) (by kernel_rfl) (by simp) ?_
    refine AllReadyH.cons rfl (fun K hK => ?_) AllReadyH.nil
    rw [if_pos (by kernel_rfl)]
    refine wp_append_run hrun (.tmp 55) (.tmp 59) rfl rfl rfl rfl ?_
    refine hK.out _ _ ?_ (fun hHeld2 => ?_)
    · exact ⟨q2, q3, q4⟩
    clear hK K hHeld
    have hHeld := hHeld2; clear hHeld2
    try simp only [Act.put, List.setIfInBounds_toArray, List.set_cons_zero, List.set_cons_succ]
    refine wpAnyH_take (i := 10) (v := ?_) rfl (by kernel_rfl) (by kernel_rfl) (by kernel_rfl) (fun _ _ _ h => h) (Or.inl ⟨by kernel_rfl, ?_⟩) hHeld ?_
    rotate_left
    · (intro w hSw; (try dsimp only at hSw); go_simp; try with_reducible rfl)
    change wpAnyH _ _ _ _ _ _ _ (Act.put _ (some 61) _) _
    simp only [Act.put, List.setIfInBounds_toArray, List.set_cons_zero, List.set_cons_succ]
    refine wpAnyH_take (i := 11) (v := ?_) rfl (by kernel_rfl) (by kernel_rfl) (by kernel_rfl) (fun _ _ _ h => h) (Or.inl ⟨by kernel_rfl, ?_⟩) hHeld ?_
    rotate_left
    · (intro w hSw; (try dsimp only at hSw); go_simp; try with_reducible rfl)
    change wpAnyH _ _ _ _ _ _ _ (Act.put _ (some 62) _) _
    simp only [Act.put, List.setIfInBounds_toArray, List.set_cons_zero, List.set_cons_succ]
    refine wpAnyH_ready (rs := [12]) (by kernel_rfl) (by simp) ?_
    refine AllReadyH.cons rfl (fun K hK => ?_) AllReadyH.nil
    go_simp
    refine hK.out _ _ ?_ (fun hHeld2 => ?_)
    · (refine ⟨?_, ?_, ?_⟩ <;> (go_simp; done))
    clear hK K hHeld
    have hHeld := hHeld2; clear hHeld2
    try simp only [Act.put, List.setIfInBounds_toArray, List.set_cons_zero, List.set_cons_succ]
    refine wpAnyH_done (by kernel_rfl) ?_ _
    go_wp2_with (fail)
    go_ret
    exact ⟨rfl, put_fin hm.symm HT.out O4.out HB5.out HOW.out HO5.out HG5.out HNE.out⟩
  · go_simp
    refine hK.out _ _ ?_ (fun hHeld2 => ?_)
    · (refine ⟨?_, ?_, ?_⟩ <;> (go_simp; done))
    clear hK K hHeld
    have hHeld := hHeld2; clear hHeld2
    try simp only [Act.put, List.setIfInBounds_toArray, List.set_cons_zero, List.set_cons_succ]
    refine wpAnyH_ready (rs := [4]) (by kernel_rfl) (by simp) ?_
    refine AllReadyH.cons rfl (fun K hK => ?_) AllReadyH.nil
    go_simp
    refine hK.out _ _ ?_ (fun hHeld2 => ?_)
    · (refine ⟨?_, ?_, ?_⟩ <;> (go_simp; done))
    clear hK K hHeld
    have hHeld := hHeld2; clear hHeld2
    try simp only [Act.put, List.setIfInBounds_toArray, List.set_cons_zero, List.set_cons_succ]
    refine wpAnyH_ready (rs := [9]) (by kernel_rfl) (by simp) ?_
    refine AllReadyH.cons rfl (fun K hK => ?_) AllReadyH.nil
    rw [if_pos (by kernel_rfl)]
    refine wp_append_run hrun (.tmp 55) (.tmp 59) rfl rfl rfl rfl ?_
    refine hK.out _ _ ?_ (fun hHeld2 => ?_)
    · exact ⟨q2, q3, q4⟩
    clear hK K hHeld
    have hHeld := hHeld2; clear hHeld2
    try simp only [Act.put, List.setIfInBounds_toArray, List.set_cons_zero, List.set_cons_succ]
    refine wpAnyH_take (i := 10) (v := ?_) rfl (by kernel_rfl) (by kernel_rfl) (by kernel_rfl) (fun _ _ _ h => h) (Or.inl ⟨by kernel_rfl, ?_⟩) hHeld ?_
    rotate_left
    · (intro w hSw; (try dsimp only at hSw); go_simp; try with_reducible rfl)
    change wpAnyH _ _ _ _ _ _ _ (Act.put _ (some 61) _) _
    simp only [Act.put, List.setIfInBounds_toArray, List.set_cons_zero, List.set_cons_succ]
    refine wpAnyH_take (i := 11) (v := ?_) rfl (by kernel_rfl) (by kernel_rfl) (by kernel_rfl) (fun _ _ _ h => h) (Or.inl ⟨by kernel_rfl, ?_⟩) hHeld ?_
    rotate_left
    · (intro w hSw; (try dsimp only at hSw); go_simp; try with_reducible rfl)
    change wpAnyH _ _ _ _ _ _ _ (Act.put _ (some 62) _) _
    simp only [Act.put, List.setIfInBounds_toArray, List.set_cons_zero, List.set_cons_succ]
    refine wpAnyH_ready (rs := [12]) (by kernel_rfl) (by simp) ?_
    refine AllReadyH.cons rfl (fun K hK => ?_) AllReadyH.nil
    go_simp
    refine hK.out _ _ ?_ (fun hHeld2 => ?_)
    · (refine ⟨?_, ?_, ?_⟩ <;> (go_simp; done))
    clear hK K hHeld
    have hHeld := hHeld2; clear hHeld2
    try simp only [Act.put, List.setIfInBounds_toArray, List.set_cons_zero, List.set_cons_succ]
    refine wpAnyH_done (by kernel_rfl) ?_ _
    go_wp2_with (fail)
    go_ret
    exact ⟨rfl, put_fin hm.symm HT.out O4.out HB5.out HOW.out HO5.out HG5.out HNE.out⟩

theorem put_any {B : Nat} {g : Nat} {room : Int} {L : List En} {A : Option Addr} {c : Nat} {s : St} {x : Int} {w : World} (hT : TB B w g room L A c) (hk : Trk L) (os : s.ok) (hlen : L.length ≤ 1048576) (hB : B ≤ w.heap.size) :
    Calls Try.prog 10 #[.pointer (some ⟨g, 0, none⟩), .agg #[.int .i64 s.1.1, .int .i64 s.1.2, .int .i64 s.2], .int .i64 x] w fun e w' => e = .returned (.int .i64 (putE L room s)) ∧ ∃ A' c', TB B w' g room (putL L room s x) A' c' ∧ Only (g :: A.toList.map (·.block)) w w' ∧ ∀ p, A' = some p → A = some p ∨ w.heap.size ≤ p.block := by
  have keepc : ∀ r, putE L room s = r → r ≠ 0 → (Calls Try.prog 10 #[.pointer (some ⟨g, 0, none⟩), .agg #[.int .i64 s.1.1, .int .i64 s.1.2, .int .i64 s.2], .int .i64 x] w fun e w' => e = .returned (.int .i64 r) ∧ Only [] w w') →
      Calls Try.prog 10 #[.pointer (some ⟨g, 0, none⟩), .agg #[.int .i64 s.1.1, .int .i64 s.1.2, .int .i64 s.2], .int .i64 x] w fun e w' => e = .returned (.int .i64 (putE L room s)) ∧ ∃ A' c', TB B w' g room (putL L room s x) A' c' ∧ Only (g :: A.toList.map (·.block)) w w' ∧ ∀ p, A' = some p → A = some p ∨ w.heap.size ≤ p.block := fun r h1 h2 h =>
    h.mono fun e w' ⟨he, o⟩ => ⟨by rw [h1]; exact he, A, c, by unfold putL; rw [if_neg (by rw [h1]; exact h2)]; exact hT.keep o, o.mono (fun _ h => by simp at h), fun p h => .inl h⟩
  cases hr : stR s with
  | false => exact keepc 1 (by unfold putE; rw [if_pos (.inl hr)]) (by decide) (put_wrong os hr w)
  | true =>
    by_cases hn : s = ((1, 0), 0)
    · subst hn
      exact keepc 1 (by unfold putE; rw [if_pos (.inr rfl)]) (by decide) (put_never (s := ((1, 0), 0)) w)
    have h0 : ¬ (stR s = false ∨ s = ((1, 0), 0)) := fun h => by rcases h with h | h; rw [hr] at h; cases h; exact hn h
    rcases Nat.eq_zero_or_pos L.length with hz | hp
    · have hm : L = [] := List.eq_nil_of_length_eq_zero hz
      have hlc : lastC L s < 0 := by rw [hm]; show (-1 : Int) < 0; decide
      by_cases hf : room ≤ 0
      · exact keepc 14 (by unfold putE; rw [if_neg h0, if_neg (by omega), if_pos (by omega)]) (by decide) (put_full0 hT os hr hn hm (by simpa using hf))
      · have e0 : putE L room s = 0 := by unfold putE; rw [if_neg h0, if_neg (by omega), if_neg (by omega)]
        refine (put_ok0 hT os hr hn hB hm (by simpa using hf)).mono fun e w' ⟨he, p, c', ht, ho, hp⟩ => ⟨by rw [e0]; exact he, some p, c', by unfold putL; rw [if_pos e0]; exact ht, ho, fun q hq => by cases hq; exact hp⟩
    · obtain ⟨m, hm⟩ : ∃ m, L.length = m + 1 := ⟨L.length - 1, by omega⟩
      have hl : L[m]? = some L[m] := List.getElem?_eq_getElem (by omega)
      have hlc : lastC L s = stC L[m].1 s := by
        unfold lastC
        have e : L.length - 1 = m := by omega
        rw [List.getLast?_eq_getElem?, e, hl]
      have ol := (hk.ok L[m] (List.getElem_mem _)).1
      by_cases hy : stC L[m].1 s < 0
      · by_cases hf : room ≤ (m : Int) + 1
        · exact keepc 14 (by unfold putE; rw [if_neg h0, if_neg (by omega), if_pos (by omega)]) (by decide) (put_full hT os hr hn hm (by omega) hl ol (decide_eq_true hy) (decide_eq_true hf))
        · have e0 : putE L room s = 0 := by unfold putE; rw [if_neg h0, if_neg (by omega), if_neg (by omega)]
          refine (put_ok1 hT os hr hn hB hm (by omega) hl ol (decide_eq_true hy) (decide_eq_false hf)).mono fun e w' ⟨he, p, c', ht, ho, hp⟩ => ⟨by rw [e0]; exact he, some p, c', by unfold putL; rw [if_pos e0]; exact ht, ho, fun q hq => by cases hq; exact hp⟩
      · exact keepc 15 (by unfold putE; rw [if_neg h0, if_pos (by omega)]) (by decide) (put_state hT os hr hn hm (by omega) hl ol (decide_eq_false hy))

end Go.Proofs.Ytcggeogpanackaa
