/- At. -/
import Derived.Test.YtcggeogpanackaaBackA
namespace Go.Proofs.Ytcggeogpanackaa
open Go.RowKit Go.Kx
set_option maxRecDepth 20000

theorem only_same {w : World} {g : Nat} {t : TypeId} {cs : Array Value} (h : Blk w g t cs) (i : Nat) (u : Value) (e : cs.setIfInBounds i u = cs) : Only [] w (w.setCell ⟨g, i, none⟩ u) := by
  have h2 := h.set_ i u
  rw [e] at h2
  have o := only_setCell w ⟨g, i, none⟩ u
  refine ⟨o.os, o.tape, o.output, o.size, fun k hk _ => ?_⟩
  by_cases hkg : k = g
  · subst hkg; exact h2.trans h.symm
  · exact o.block k hk (by simp; exact hkg)
theorem only_same3 {w : World} {g : Nat} {t : TypeId} {a b c : Value} (h : Blk w g t #[a, b, c]) : Only [] w (((w.setCell ⟨g, 0, none⟩ a).setCell ⟨g, 1, none⟩ b).setCell ⟨g, 2, none⟩ c) := by
  have o1 := only_same h 0 a rfl
  have h1 := o1.blk h (by simp)
  have o2 := only_same h1 1 b rfl
  have h2 := o2.blk h1 (by simp)
  exact (o1.trans o2 (by simp)).trans (only_same h2 2 c rfl) (by simp)

set_option maxHeartbeats 4000000 in
theorem at_nil {s : St} (w : World)  :
    Calls Try.prog 23 #[.pointer none, .agg #[.int .i64 s.1.1, .int .i64 s.1.2, .int .i64 s.2]] w fun e w' => e = .returned (.tuple #[.agg #[.int .i64 0, .int .i64 0, .int .i64 0], .int .i64 0, .bool false]) ∧ Only [] w w' := by
  have O0 := Lib.hid (Only.refl [] w)
  go_enter Try.func23, Try.ntmps23
  have SB := Lib.hid ((Blk.alloc (by have h := Blk.new w 34 #[.int .i64 s.1.1, .int .i64 s.1.2, .int .i64 s.2]; simpa using h : Blk (w.alloc (.cells #[.int .i64 s.1.1, .int .i64 s.1.2, .int .i64 s.2] 34)) (w.heap.size) 34 #[.int .i64 s.1.1, .int .i64 s.1.2, .int .i64 s.2]) _) : Blk ((w.alloc (.cells #[.int .i64 s.1.1, .int .i64 s.1.2, .int .i64 s.2] 34)).alloc (.cells #[.int .i64 0, .int .i64 0, .int .i64 0] 34)) (w.heap.size) 34 #[.int .i64 s.1.1, .int .i64 s.1.2, .int .i64 s.2])
  have RB := Lib.hid ((by have h := Blk.new (w.alloc (.cells #[.int .i64 s.1.1, .int .i64 s.1.2, .int .i64 s.2] 34)) 34 #[.int .i64 0, .int .i64 0, .int .i64 0]; simpa using h : Blk ((w.alloc (.cells #[.int .i64 s.1.1, .int .i64 s.1.2, .int .i64 s.2] 34)).alloc (.cells #[.int .i64 0, .int .i64 0, .int .i64 0] 34)) (w.heap.size + 1) 34 #[.int .i64 0, .int .i64 0, .int .i64 0]) : Blk ((w.alloc (.cells #[.int .i64 s.1.1, .int .i64 s.1.2, .int .i64 s.2] 34)).alloc (.cells #[.int .i64 0, .int .i64 0, .int .i64 0] 34)) (w.heap.size + 1) 34 #[.int .i64 0, .int .i64 0, .int .i64 0])
  have O1 := Lib.hid (((O0.out.alloc _).alloc _) : Only [] w ((w.alloc (.cells #[.int .i64 s.1.1, .int .i64 s.1.2, .int .i64 s.2] 34)).alloc (.cells #[.int .i64 0, .int .i64 0, .int .i64 0] 34)))
  clear O0
  go_wp2_with (fail)
  refine wp_region_facts 5 [] (fr := ?fra) (tl := ?tla) (fun i v wv => match i with
    | 0 => v = .agg #[.int .i64 0, .int .i64 0, .int .i64 0]
    | 1 => ∃ h, v = .pointer (some ⟨h, 0, none⟩) ∧ Blk wv h 3 #[.int .i64 0]
    | 2 => ∃ h, v = .pointer (some ⟨h, 0, none⟩) ∧ Blk wv h 3 #[.int .i64 0]
    | 3 => v = .int .i64 0
    | 4 => True
    | _ => True) (by kernel_rfl) (by kernel_rfl) (by kernel_rfl) (by kernel_rfl) (by decide) ?htla ?hfra ?staba ?stepsa ?donea
  case htla => simp only [List.drop_succ_cons, List.drop_zero]; rfl
  case hfra => intro vals; simp only [putAll, dstAt, Act.put, List.getElem?_toArray, List.getElem?_cons_zero, List.getElem?_cons_succ, Option.bind_some, List.setIfInBounds_toArray, List.set_cons_zero, List.set_cons_succ]; rfl
  case staba =>
    intro i v wa wb h
    try dsimp only
    split <;> first | exact id | (exact fun ⟨c, e, hb⟩ => ⟨c, e, Only.blk h hb (by simp)⟩)
  case stepsa =>
    refine ⟨?_, ?_, ?_, ?_, ?_, trivial⟩
    · intro vals wr hR hp K hK
      dsimp only at hK ⊢
      clear hp
      unfold RunsOp
      go_simp
      exact hK.out _ _ ⟨_, rfl, Only.refl _ _, rfl⟩
    · intro vals wr hR hp K hK
      dsimp only at hK ⊢
      clear hp
      unfold RunsOp
      go_simp
      exact hK.out _ _ ⟨_, rfl, (Only.refl _ _).alloc _, _, rfl, Blk.new _ _ _⟩
    · intro vals wr hR hp K hK
      dsimp only at hK ⊢
      obtain ⟨p1, -, -⟩ := hp
      replace p1 := p1 rfl
      dsimp only at p1
      obtain ⟨h1, p1, hb1⟩ := p1
      rw [p1] at hK ⊢
      clear p1
      unfold RunsOp
      go_simp
      exact hK.out _ _ ⟨_, rfl, Only.refl _ _, h1, rfl, hb1⟩
    · intro vals wr hR hp K hK
      dsimp only at hK ⊢
      obtain ⟨p2, -, -⟩ := hp
      replace p2 := p2 rfl
      dsimp only at p2
      obtain ⟨h2, p2, hb2⟩ := p2
      rw [p2] at hK ⊢
      clear p2
      unfold RunsOp
      obtain ⟨ch, chl⟩ := hb2.facts1
      go_simp
      exact hK.out _ _ ⟨_, rfl, Only.refl _ _, rfl⟩
    · intro vals wr hR hp K hK
      dsimp only at hK ⊢
      obtain ⟨p0, -, -, -, -, -⟩ := hp
      replace p0 := p0 rfl
      dsimp only at p0
      rw [p0] at hK ⊢
      clear p0
      unfold RunsOp
      have tb := hR.blk (by first | exact RB.out | exact Blk.drew RB.out) (by simp)
      obtain ⟨c0, c1, c2, cl⟩ := tb.facts3
      have f0 := tb.frozen 0
      have f1 := tb.frozen 1
      have f2 := tb.frozen 2
      go_simp
      exact hK.out _ _ ⟨undef, rfl, only_same3 tb, trivial⟩
  intro vals w2 hR hF
  have f3 : (vals 3) = .int .i64 0 := hF 3 (by decide)
  rw [f3]
  clear hF f3
  have SBx := hR.blk (t := 34) (cs := #[.int .i64 s.1.1, .int .i64 s.1.2, .int .i64 s.2]) (g := w.heap.size) (by first | exact SB.out | exact Blk.drewN SB.out _ | exact Blk.drew SB.out) (by simp)
  have RBx := hR.blk (t := 34) (cs := #[.int .i64 0, .int .i64 0, .int .i64 0]) (g := w.heap.size + 1) (by first | exact RB.out | exact Blk.drewN RB.out _ | exact Blk.drew RB.out) (by simp)
  have O2x : Only [] w w2 := (by first | exact Only.trans O1.out hR (by simp) | exact Only.trans (Only.drewN O1.out _) hR (by simp) | exact Only.trans (Only.drew O1.out) hR (by simp))
  obtain ⟨SBc0, SBc1, SBc2, SBl⟩ := SBx.facts3
  obtain ⟨RBc0, RBc1, RBc2, RBl⟩ := RBx.facts3
  clear SB RB O1 hR
  have SB := Lib.hid SBx; have RB := Lib.hid RBx; have O2 := Lib.hid O2x
  clear SBx RBx O2x
  go_wp2_with (fail)
  exact bodyPost_ret (v := .tuple #[.agg #[.int .i64 0, .int .i64 0, .int .i64 0], .int .i64 0, .bool false]) (by simp [results, Try.results23, go_sem, RBc0, RBc1, RBc2]) rfl ⟨rfl, O2.out⟩

set_option maxHeartbeats 4000000 in
theorem at_wrong {g : Nat} {s : St} {w : World} (os : s.ok) (rs : stR s = false) :
    Calls Try.prog 23 #[.pointer (some ⟨g, 0, none⟩), .agg #[.int .i64 s.1.1, .int .i64 s.1.2, .int .i64 s.2]] w fun e w' => e = .returned (.tuple #[.agg #[.int .i64 0, .int .i64 0, .int .i64 0], .int .i64 0, .bool false]) ∧ Only [] w w' := by
  have O0 := Lib.hid (Only.refl [] w)
  have RS := Lib.hid rs
  clear rs
  go_enter Try.func23, Try.ntmps23
  go_wp2_with (fail)
  refine (strightr os RS.out _).mono ?_
  rintro e w1 ⟨rfl, o⟩
  have SBn : Blk (w.alloc (.cells #[.int .i64 s.1.1, .int .i64 s.1.2, .int .i64 s.2] 34)) (w.heap.size) 34 #[.int .i64 s.1.1, .int .i64 s.1.2, .int .i64 s.2] := (by have h := Blk.new w 34 #[.int .i64 s.1.1, .int .i64 s.1.2, .int .i64 s.2]; simpa using h)
  have RBn : Blk ((w.alloc (.cells #[.int .i64 s.1.1, .int .i64 s.1.2, .int .i64 s.2] 34)).alloc (.cells #[.int .i64 0, .int .i64 0, .int .i64 0] 34)) (w.heap.size + 1) 34 #[.int .i64 0, .int .i64 0, .int .i64 0] := (by have h := Blk.new (w.alloc (.cells #[.int .i64 s.1.1, .int .i64 s.1.2, .int .i64 s.2] 34)) 34 #[.int .i64 0, .int .i64 0, .int .i64 0]; simpa using h)
  have SBx := o.blk (t := 34) (cs := #[.int .i64 s.1.1, .int .i64 s.1.2, .int .i64 s.2]) (g := w.heap.size) (by first | exact (SBn.alloc _) | exact Blk.drewN (SBn.alloc _) _ | exact Blk.drew (SBn.alloc _)) (by simp)
  have RBx := o.blk (t := 34) (cs := #[.int .i64 0, .int .i64 0, .int .i64 0]) (g := w.heap.size + 1) (by first | exact RBn | exact Blk.drewN RBn _ | exact Blk.drew RBn) (by simp)
  have O1x : Only [] w w1 := (by first | exact Only.trans ((O0.out.alloc _).alloc _) o (by simp) | exact Only.trans (Only.drewN ((O0.out.alloc _).alloc _) _) o (by simp) | exact Only.trans (Only.drew ((O0.out.alloc _).alloc _)) o (by simp))
  obtain ⟨SBc0, SBc1, SBc2, SBl⟩ := SBx.facts3
  obtain ⟨RBc0, RBc1, RBc2, RBl⟩ := RBx.facts3
  clear SBn RBn O0 o
  have SB := Lib.hid SBx; have RB := Lib.hid RBx; have O1 := Lib.hid O1x
  clear SBx RBx O1x
  go_wp2_with (fail)
  refine wp_region_facts 5 [] (fr := ?fra) (tl := ?tla) (fun i v wv => match i with
    | 0 => v = .agg #[.int .i64 0, .int .i64 0, .int .i64 0]
    | 1 => ∃ h, v = .pointer (some ⟨h, 0, none⟩) ∧ Blk wv h 3 #[.int .i64 0]
    | 2 => ∃ h, v = .pointer (some ⟨h, 0, none⟩) ∧ Blk wv h 3 #[.int .i64 0]
    | 3 => v = .int .i64 0
    | 4 => True
    | _ => True) (by kernel_rfl) (by kernel_rfl) (by kernel_rfl) (by kernel_rfl) (by decide) ?htla ?hfra ?staba ?stepsa ?donea
  case htla => simp only [List.drop_succ_cons, List.drop_zero]; rfl
  case hfra => intro vals; simp only [putAll, dstAt, Act.put, List.getElem?_toArray, List.getElem?_cons_zero, List.getElem?_cons_succ, Option.bind_some, List.setIfInBounds_toArray, List.set_cons_zero, List.set_cons_succ]; rfl
  case staba =>
    intro i v wa wb h
    try dsimp only
    split <;> first | exact id | (exact fun ⟨c, e, hb⟩ => ⟨c, e, Only.blk h hb (by simp)⟩)
  case stepsa =>
    refine ⟨?_, ?_, ?_, ?_, ?_, trivial⟩
    · intro vals wr hR hp K hK
      dsimp only at hK ⊢
      clear hp
      unfold RunsOp
      go_simp
      exact hK.out _ _ ⟨_, rfl, Only.refl _ _, rfl⟩
    · intro vals wr hR hp K hK
      dsimp only at hK ⊢
      clear hp
      unfold RunsOp
      go_simp
      exact hK.out _ _ ⟨_, rfl, (Only.refl _ _).alloc _, _, rfl, Blk.new _ _ _⟩
    · intro vals wr hR hp K hK
      dsimp only at hK ⊢
      obtain ⟨p1, -, -⟩ := hp
      replace p1 := p1 rfl
      dsimp only at p1
      obtain ⟨h1, p1, hb1⟩ := p1
      rw [p1] at hK ⊢
      clear p1
      unfold RunsOp
      go_simp
      exact hK.out _ _ ⟨_, rfl, Only.refl _ _, h1, rfl, hb1⟩
    · intro vals wr hR hp K hK
      dsimp only at hK ⊢
      obtain ⟨p2, -, -⟩ := hp
      replace p2 := p2 rfl
      dsimp only at p2
      obtain ⟨h2, p2, hb2⟩ := p2
      rw [p2] at hK ⊢
      clear p2
      unfold RunsOp
      obtain ⟨ch, chl⟩ := hb2.facts1
      go_simp
      exact hK.out _ _ ⟨_, rfl, Only.refl _ _, rfl⟩
    · intro vals wr hR hp K hK
      dsimp only at hK ⊢
      obtain ⟨p0, -, -, -, -, -⟩ := hp
      replace p0 := p0 rfl
      dsimp only at p0
      rw [p0] at hK ⊢
      clear p0
      unfold RunsOp
      have tb := hR.blk (by first | exact RB.out | exact Blk.drew RB.out) (by simp)
      obtain ⟨c0, c1, c2, cl⟩ := tb.facts3
      have f0 := tb.frozen 0
      have f1 := tb.frozen 1
      have f2 := tb.frozen 2
      go_simp
      exact hK.out _ _ ⟨undef, rfl, only_same3 tb, trivial⟩
  intro vals w2b hR hF
  have f3 : (vals 3) = .int .i64 0 := hF 3 (by decide)
  rw [f3]
  clear hF f3
  have SBx := hR.blk (t := 34) (cs := #[.int .i64 s.1.1, .int .i64 s.1.2, .int .i64 s.2]) (g := w.heap.size) (by first | exact SB.out | exact Blk.drewN SB.out _ | exact Blk.drew SB.out) (by simp)
  have RBx := hR.blk (t := 34) (cs := #[.int .i64 0, .int .i64 0, .int .i64 0]) (g := w.heap.size + 1) (by first | exact RB.out | exact Blk.drewN RB.out _ | exact Blk.drew RB.out) (by simp)
  have O2x : Only [] w w2b := (by first | exact Only.trans O1.out hR (by simp) | exact Only.trans (Only.drewN O1.out _) hR (by simp) | exact Only.trans (Only.drew O1.out) hR (by simp))
  obtain ⟨SBc0, SBc1, SBc2, SBl⟩ := SBx.facts3
  obtain ⟨RBc0, RBc1, RBc2, RBl⟩ := RBx.facts3
  clear SB RB O1 hR
  have SB := Lib.hid SBx; have RB := Lib.hid RBx; have O2 := Lib.hid O2x
  clear SBx RBx O2x
  go_wp2_with (fail)
  exact bodyPost_ret (v := .tuple #[.agg #[.int .i64 0, .int .i64 0, .int .i64 0], .int .i64 0, .bool false]) (by simp [results, Try.results23, go_sem, RBc0, RBc1, RBc2]) rfl ⟨rfl, O2.out⟩

set_option maxHeartbeats 4000000 in
theorem at_zero {B : Nat} {w : World} {g : Nat} {room : Int} {L : List En} {A : Option Addr} {c : Nat} {s : St} (hT : TB B w g room L A c) (hk : Trk L) (os : s.ok) (rs : stR s = true) (hlen : L.length ≤ 1048576) (hc : upToT L s = 0) :
    Calls Try.prog 23 #[.pointer (some ⟨g, 0, none⟩), .agg #[.int .i64 s.1.1, .int .i64 s.1.2, .int .i64 s.2]] w fun e w' => e = .returned (.tuple #[.agg #[.int .i64 0, .int .i64 0, .int .i64 0], .int .i64 0, .bool false]) ∧ Only [] w w' := by
  have O0 := Lib.hid (Only.refl [] w)
  have HT := Lib.hid hT
  have RS := Lib.hid rs
  have HC := Lib.hid hc
  clear hT rs hc
  go_enter Try.func23, Try.ntmps23
  go_wp2_with (fail)
  refine (strightr os RS.out _).mono ?_
  rintro e w1 ⟨rfl, o⟩
  have SBn : Blk (w.alloc (.cells #[.int .i64 s.1.1, .int .i64 s.1.2, .int .i64 s.2] 34)) (w.heap.size) 34 #[.int .i64 s.1.1, .int .i64 s.1.2, .int .i64 s.2] := (by have h := Blk.new w 34 #[.int .i64 s.1.1, .int .i64 s.1.2, .int .i64 s.2]; simpa using h)
  have RBn : Blk ((w.alloc (.cells #[.int .i64 s.1.1, .int .i64 s.1.2, .int .i64 s.2] 34)).alloc (.cells #[.int .i64 0, .int .i64 0, .int .i64 0] 34)) (w.heap.size + 1) 34 #[.int .i64 0, .int .i64 0, .int .i64 0] := (by have h := Blk.new (w.alloc (.cells #[.int .i64 s.1.1, .int .i64 s.1.2, .int .i64 s.2] 34)) 34 #[.int .i64 0, .int .i64 0, .int .i64 0]; simpa using h)
  have SBx := o.blk (t := 34) (cs := #[.int .i64 s.1.1, .int .i64 s.1.2, .int .i64 s.2]) (g := w.heap.size) (by first | exact (SBn.alloc _) | exact Blk.drewN (SBn.alloc _) _ | exact Blk.drew (SBn.alloc _)) (by simp)
  have RBx := o.blk (t := 34) (cs := #[.int .i64 0, .int .i64 0, .int .i64 0]) (g := w.heap.size + 1) (by first | exact RBn | exact Blk.drewN RBn _ | exact Blk.drew RBn) (by simp)
  have O1x : Only [] w w1 := (by first | exact Only.trans ((O0.out.alloc _).alloc _) o (by simp) | exact Only.trans (Only.drewN ((O0.out.alloc _).alloc _) _) o (by simp) | exact Only.trans (Only.drew ((O0.out.alloc _).alloc _)) o (by simp))
  obtain ⟨SBc0, SBc1, SBc2, SBl⟩ := SBx.facts3
  obtain ⟨RBc0, RBc1, RBc2, RBl⟩ := RBx.facts3
  clear SBn RBn O0 o
  have SB := Lib.hid SBx; have RB := Lib.hid RBx; have O1 := Lib.hid O1x
  clear SBx RBx O1x
  go_wp2_with (fail)
  refine (upTo_any (HT.out.keep O1.out) hk os RS.out hlen).mono ?_
  rintro e w2 ⟨rfl, o⟩
  rw [HC.out]
  have SBx := o.blk (t := 34) (cs := #[.int .i64 s.1.1, .int .i64 s.1.2, .int .i64 s.2]) (g := w.heap.size) (by first | exact SB.out | exact Blk.drewN SB.out _ | exact Blk.drew SB.out) (by simp)
  have RBx := o.blk (t := 34) (cs := #[.int .i64 0, .int .i64 0, .int .i64 0]) (g := w.heap.size + 1) (by first | exact RB.out | exact Blk.drewN RB.out _ | exact Blk.drew RB.out) (by simp)
  have O2x : Only [] w w2 := (by first | exact Only.trans O1.out o (by simp) | exact Only.trans (Only.drewN O1.out _) o (by simp) | exact Only.trans (Only.drew O1.out) o (by simp))
  obtain ⟨SBc0, SBc1, SBc2, SBl⟩ := SBx.facts3
  obtain ⟨RBc0, RBc1, RBc2, RBl⟩ := RBx.facts3
  clear SB RB O1 o
  have SB := Lib.hid SBx; have RB := Lib.hid RBx; have O2 := Lib.hid O2x
  clear SBx RBx O2x
  go_wp2_with (fail)
  refine wp_region_facts 5 [] (fr := ?fra) (tl := ?tla) (fun i v wv => match i with
    | 0 => v = .agg #[.int .i64 0, .int .i64 0, .int .i64 0]
    | 1 => ∃ h, v = .pointer (some ⟨h, 0, none⟩) ∧ Blk wv h 3 #[.int .i64 0]
    | 2 => ∃ h, v = .pointer (some ⟨h, 0, none⟩) ∧ Blk wv h 3 #[.int .i64 0]
    | 3 => v = .int .i64 0
    | 4 => True
    | _ => True) (by kernel_rfl) (by kernel_rfl) (by kernel_rfl) (by kernel_rfl) (by decide) ?htla ?hfra ?staba ?stepsa ?donea
  case htla => simp only [List.drop_succ_cons, List.drop_zero]; rfl
  case hfra => intro vals; simp only [putAll, dstAt, Act.put, List.getElem?_toArray, List.getElem?_cons_zero, List.getElem?_cons_succ, Option.bind_some, List.setIfInBounds_toArray, List.set_cons_zero, List.set_cons_succ]; rfl
  case staba =>
    intro i v wa wb h
    try dsimp only
    split <;> first | exact id | (exact fun ⟨c, e, hb⟩ => ⟨c, e, Only.blk h hb (by simp)⟩)
  case stepsa =>
    refine ⟨?_, ?_, ?_, ?_, ?_, trivial⟩
    · intro vals wr hR hp K hK
      dsimp only at hK ⊢
      clear hp
      unfold RunsOp
      go_simp
      exact hK.out _ _ ⟨_, rfl, Only.refl _ _, rfl⟩
    · intro vals wr hR hp K hK
      dsimp only at hK ⊢
      clear hp
      unfold RunsOp
      go_simp
      exact hK.out _ _ ⟨_, rfl, (Only.refl _ _).alloc _, _, rfl, Blk.new _ _ _⟩
    · intro vals wr hR hp K hK
      dsimp only at hK ⊢
      obtain ⟨p1, -, -⟩ := hp
      replace p1 := p1 rfl
      dsimp only at p1
      obtain ⟨h1, p1, hb1⟩ := p1
      rw [p1] at hK ⊢
      clear p1
      unfold RunsOp
      go_simp
      exact hK.out _ _ ⟨_, rfl, Only.refl _ _, h1, rfl, hb1⟩
    · intro vals wr hR hp K hK
      dsimp only at hK ⊢
      obtain ⟨p2, -, -⟩ := hp
      replace p2 := p2 rfl
      dsimp only at p2
      obtain ⟨h2, p2, hb2⟩ := p2
      rw [p2] at hK ⊢
      clear p2
      unfold RunsOp
      obtain ⟨ch, chl⟩ := hb2.facts1
      go_simp
      exact hK.out _ _ ⟨_, rfl, Only.refl _ _, rfl⟩
    · intro vals wr hR hp K hK
      dsimp only at hK ⊢
      obtain ⟨p0, -, -, -, -, -⟩ := hp
      replace p0 := p0 rfl
      dsimp only at p0
      rw [p0] at hK ⊢
      clear p0
      unfold RunsOp
      have tb := hR.blk (by first | exact RB.out | exact Blk.drew RB.out) (by simp)
      obtain ⟨c0, c1, c2, cl⟩ := tb.facts3
      have f0 := tb.frozen 0
      have f1 := tb.frozen 1
      have f2 := tb.frozen 2
      go_simp
      exact hK.out _ _ ⟨undef, rfl, only_same3 tb, trivial⟩
  intro vals w4 hR hF
  have f3 : (vals 3) = .int .i64 0 := hF 3 (by decide)
  rw [f3]
  clear hF f3
  have SBx := hR.blk (t := 34) (cs := #[.int .i64 s.1.1, .int .i64 s.1.2, .int .i64 s.2]) (g := w.heap.size) (by first | exact SB.out | exact Blk.drewN SB.out _ | exact Blk.drew SB.out) (by simp)
  have RBx := hR.blk (t := 34) (cs := #[.int .i64 0, .int .i64 0, .int .i64 0]) (g := w.heap.size + 1) (by first | exact RB.out | exact Blk.drewN RB.out _ | exact Blk.drew RB.out) (by simp)
  have O3x : Only [] w w4 := (by first | exact Only.trans O2.out hR (by simp) | exact Only.trans (Only.drewN O2.out _) hR (by simp) | exact Only.trans (Only.drew O2.out) hR (by simp))
  obtain ⟨SBc0, SBc1, SBc2, SBl⟩ := SBx.facts3
  obtain ⟨RBc0, RBc1, RBc2, RBl⟩ := RBx.facts3
  clear SB RB O2 hR
  have SB := Lib.hid SBx; have RB := Lib.hid RBx; have O3 := Lib.hid O3x
  clear SBx RBx O3x
  go_wp2_with (fail)
  exact bodyPost_ret (v := .tuple #[.agg #[.int .i64 0, .int .i64 0, .int .i64 0], .int .i64 0, .bool false]) (by simp [results, Try.results23, go_sem, RBc0, RBc1, RBc2]) rfl ⟨rfl, O3.out⟩

set_option maxHeartbeats 4000000 in
theorem at_some {B : Nat} {w : World} {g : Nat} {room : Int} {L : List En} {A : Option Addr} {c : Nat} {s : St} {m n : Nat} {l : En} (hT : TB B w g room L A c) (hk : Trk L) (os : s.ok) (rs : stR s = true) (hlen : L.length ≤ 1048576) (hc : upToT L s = m + 1) (hl : L[m]? = some l) (hn : L.length = n) (hmn : m < n) :
    Calls Try.prog 23 #[.pointer (some ⟨g, 0, none⟩), .agg #[.int .i64 s.1.1, .int .i64 s.1.2, .int .i64 s.2]] w fun e w' => e = .returned (.tuple #[.agg #[.int .i64 l.1.1.1, .int .i64 l.1.1.2, .int .i64 l.1.2], .int .i64 l.2, .bool true]) ∧ Only [] w w' := by
  have O0 := Lib.hid (Only.refl [] w)
  have hw64 : IntKind.i64.wrap (m : Int) = (m : Int) := by rw [IntKind.wrap_i64]; omega
  have hw := hT.own
  have hbk := hT.blk
  rw [hn] at hw hbk
  obtain ⟨b, rfl, hb, -, c0, c1, c2, c3⟩ := own_cell hn.symm hw hl
  have BG := Lib.hid hbk
  have HC0 := Lib.hid c0
  have HC1 := Lib.hid c1
  have HC2 := Lib.hid c2
  have HC3 := Lib.hid c3
  clear c0 c1 c2 c3 hw hbk
  have HT := Lib.hid hT
  have RS := Lib.hid rs
  have HC := Lib.hid hc
  clear hT rs hc
  go_enter Try.func23, Try.ntmps23
  go_wp2_with (fail)
  refine (strightr os RS.out _).mono ?_
  rintro e w1 ⟨rfl, o⟩
  have SBn : Blk (w.alloc (.cells #[.int .i64 s.1.1, .int .i64 s.1.2, .int .i64 s.2] 34)) (w.heap.size) 34 #[.int .i64 s.1.1, .int .i64 s.1.2, .int .i64 s.2] := (by have h := Blk.new w 34 #[.int .i64 s.1.1, .int .i64 s.1.2, .int .i64 s.2]; simpa using h)
  have RBn : Blk ((w.alloc (.cells #[.int .i64 s.1.1, .int .i64 s.1.2, .int .i64 s.2] 34)).alloc (.cells #[.int .i64 0, .int .i64 0, .int .i64 0] 34)) (w.heap.size + 1) 34 #[.int .i64 0, .int .i64 0, .int .i64 0] := (by have h := Blk.new (w.alloc (.cells #[.int .i64 s.1.1, .int .i64 s.1.2, .int .i64 s.2] 34)) 34 #[.int .i64 0, .int .i64 0, .int .i64 0]; simpa using h)
  have BGx := o.blk (t := 66) (cs := #[.int .i64 room, .slice (some ⟨b, 0, none⟩) n c]) (g := g) (by first | exact ((BG.out.alloc _).alloc _) | exact Blk.drewN ((BG.out.alloc _).alloc _) _ | exact Blk.drew ((BG.out.alloc _).alloc _)) (by simp)
  have SBx := o.blk (t := 34) (cs := #[.int .i64 s.1.1, .int .i64 s.1.2, .int .i64 s.2]) (g := w.heap.size) (by first | exact (SBn.alloc _) | exact Blk.drewN (SBn.alloc _) _ | exact Blk.drew (SBn.alloc _)) (by simp)
  have RBx := o.blk (t := 34) (cs := #[.int .i64 0, .int .i64 0, .int .i64 0]) (g := w.heap.size + 1) (by first | exact RBn | exact Blk.drewN RBn _ | exact Blk.drew RBn) (by simp)
  have O1x : Only [] w w1 := (by first | exact Only.trans ((O0.out.alloc _).alloc _) o (by simp) | exact Only.trans (Only.drewN ((O0.out.alloc _).alloc _) _) o (by simp) | exact Only.trans (Only.drew ((O0.out.alloc _).alloc _)) o (by simp))
  obtain ⟨BGc0, BGc1, BGl⟩ := BGx.facts2
  obtain ⟨SBc0, SBc1, SBc2, SBl⟩ := SBx.facts3
  obtain ⟨RBc0, RBc1, RBc2, RBl⟩ := RBx.facts3
  clear BG SBn RBn O0 o
  have BG := Lib.hid BGx; have SB := Lib.hid SBx; have RB := Lib.hid RBx; have O1 := Lib.hid O1x
  clear BGx SBx RBx O1x
  go_wp2_with (fail)
  refine (upTo_any (HT.out.keep O1.out) hk os RS.out hlen).mono ?_
  rintro e w2 ⟨rfl, o⟩
  rw [HC.out]
  have BGx := o.blk (t := 66) (cs := #[.int .i64 room, .slice (some ⟨b, 0, none⟩) n c]) (g := g) (by first | exact BG.out | exact Blk.drewN BG.out _ | exact Blk.drew BG.out) (by simp)
  have SBx := o.blk (t := 34) (cs := #[.int .i64 s.1.1, .int .i64 s.1.2, .int .i64 s.2]) (g := w.heap.size) (by first | exact SB.out | exact Blk.drewN SB.out _ | exact Blk.drew SB.out) (by simp)
  have RBx := o.blk (t := 34) (cs := #[.int .i64 0, .int .i64 0, .int .i64 0]) (g := w.heap.size + 1) (by first | exact RB.out | exact Blk.drewN RB.out _ | exact Blk.drew RB.out) (by simp)
  have O2x : Only [] w w2 := (by first | exact Only.trans O1.out o (by simp) | exact Only.trans (Only.drewN O1.out _) o (by simp) | exact Only.trans (Only.drew O1.out) o (by simp))
  obtain ⟨BGc0, BGc1, BGl⟩ := BGx.facts2
  obtain ⟨SBc0, SBc1, SBc2, SBl⟩ := SBx.facts3
  obtain ⟨RBc0, RBc1, RBc2, RBl⟩ := RBx.facts3
  clear BG SB RB O1 o
  have BG := Lib.hid BGx; have SB := Lib.hid SBx; have RB := Lib.hid RBx; have O2 := Lib.hid O2x
  clear BGx SBx RBx O2x
  have HC0' := (O2.out.cell (p := ⟨b, m * 4, none⟩) hb (by simp)).trans HC0.out
  have HC1' := (O2.out.cell (p := ⟨b, m * 4 + 1, none⟩) hb (by simp)).trans HC1.out
  have HC2' := (O2.out.cell (p := ⟨b, m * 4 + 2, none⟩) hb (by simp)).trans HC2.out
  have HC3' := (O2.out.cell (p := ⟨b, m * 4 + 3, none⟩) hb (by simp)).trans HC3.out
  have hb := Nat.lt_of_lt_of_le hb O2.out.size
  clear HC0 HC1 HC2 HC3
  have HC0 := Lib.hid HC0'
  have HC1 := Lib.hid HC1'
  have HC2 := Lib.hid HC2'
  have HC3 := Lib.hid HC3'
  clear HC0' HC1' HC2' HC3'
  have e0 := HC0.out
  have e1 := HC1.out
  have e2 := HC2.out
  have e3 := HC3.out
  have fr0 := RB.out.frozen 0
  have fr1 := RB.out.frozen 1
  have fr2 := RB.out.frozen 2
  have hbr : ¬ w.heap.size + 1 = b := by have := (HT.out.lt ⟨b, 0, none⟩ rfl).1; simp at this; omega
  have hbr' : ¬ b = w.heap.size + 1 := fun h => hbr h.symm
  have hgr' : ¬ g = w.heap.size + 1 := by have := HT.out.blk.lt; omega
  have hgr : ¬ w.heap.size + 1 = g := fun h => hgr' h.symm
  go_wp2_with (fail)
  refine wp_region_held_drew (S := (fun w' => w'.cell? ⟨g, 1, none⟩ = some (.slice (some ⟨b, 0, none⟩) n c) ∧ w'.cell? ⟨b, m * 4, none⟩ = some (.int .i64 l.1.1.1) ∧ w'.cell? ⟨b, m * 4 + 1, none⟩ = some (.int .i64 l.1.1.2) ∧ w'.cell? ⟨b, m * 4 + 2, none⟩ = some (.int .i64 l.1.2) ∧ w'.cell? ⟨b, m * 4 + 3, none⟩ = some (.int .i64 l.2))) (by kernel_rfl) ?_ (fun hHeld => ?_)
  · (refine ⟨?_, ?_, ?_, ?_, ?_⟩ <;> (go_simp; done))
  refine wpAnyH_take (i := 0) (v := ?_) rfl (by kernel_rfl) (by kernel_rfl) (by kernel_rfl) (fun _ _ _ h => h) (Or.inl ⟨by kernel_rfl, ?_⟩) hHeld ?_
  rotate_left
  · (intro w hSw; (try dsimp only at hSw); go_simp; try with_reducible rfl)
  change wpAnyH _ _ _ _ _ _ _ (Act.put _ (some 28) _) _
  simp only [Act.put, List.setIfInBounds_toArray, List.set_cons_zero, List.set_cons_succ]
  refine wpAnyH_take (i := 1) (v := ?_) rfl (by kernel_rfl) (by kernel_rfl) (by kernel_rfl) (fun _ _ _ h => h) (Or.inl ⟨by kernel_rfl, ?_⟩) hHeld ?_
  rotate_left
  · (intro w hSw; (try dsimp only at hSw); go_simp; try with_reducible rfl)
  change wpAnyH _ _ _ _ _ _ _ (Act.put _ (some 29) _) _
  simp only [Act.put, List.setIfInBounds_toArray, List.set_cons_zero, List.set_cons_succ]
  refine wpAnyH_take (i := 2) (v := ?_) rfl (by kernel_rfl) (by kernel_rfl) (by kernel_rfl) (fun _ _ _ h => h) (Or.inl ⟨by kernel_rfl, ?_⟩) hHeld ?_
  rotate_left
  · (intro w hSw; (try dsimp only at hSw); go_simp; try with_reducible rfl)
  change wpAnyH _ _ _ _ _ _ _ (Act.put _ (some 30) _) _
  simp only [Act.put, List.setIfInBounds_toArray, List.set_cons_zero, List.set_cons_succ]
  refine wpAnyH_take (i := 3) (v := ?_) rfl (by kernel_rfl) (by kernel_rfl) (by kernel_rfl) (fun _ _ _ h => h) (Or.inl ⟨by kernel_rfl, ?_⟩) hHeld ?_
  rotate_left
  · (intro w hSw; (try dsimp only at hSw); go_simp; try with_reducible rfl)
  change wpAnyH _ _ _ _ _ _ _ (Act.put _ (some 31) _) _
  simp only [Act.put, List.setIfInBounds_toArray, List.set_cons_zero, List.set_cons_succ]
  refine wpAnyH_take (i := 4) (v := ?_) rfl (by kernel_rfl) (by kernel_rfl) (by kernel_rfl) (fun _ _ _ h => h) (Or.inl ⟨by kernel_rfl, ?_⟩) hHeld ?_
  rotate_left
  · (intro w hSw; (try dsimp only at hSw); go_simp; try with_reducible rfl)
  change wpAnyH _ _ _ _ _ _ _ (Act.put _ (some 32) _) _
  simp only [Act.put, List.setIfInBounds_toArray, List.set_cons_zero, List.set_cons_succ]
  refine wpAnyH_take (i := 5) (v := ?_) rfl (by kernel_rfl) (by kernel_rfl) (by kernel_rfl) (fun _ _ _ h => h) (Or.inl ⟨by kernel_rfl, ?_⟩) hHeld ?_
  rotate_left
  · (intro w hSw; (try dsimp only at hSw); go_simp; try with_reducible rfl)
  change wpAnyH _ _ _ _ _ _ _ (Act.put _ (some 33) _) _
  simp only [Act.put, List.setIfInBounds_toArray, List.set_cons_zero, List.set_cons_succ]
  refine wpAnyH_take (i := 6) (v := ?_) rfl (by kernel_rfl) (by kernel_rfl) (by kernel_rfl) (fun _ _ _ h => h) (Or.inl ⟨by kernel_rfl, ?_⟩) hHeld ?_
  rotate_left
  · (intro w hSw; (try dsimp only at hSw); go_simp; try with_reducible rfl)
  change wpAnyH _ _ _ _ _ _ _ (Act.put _ (some 34) _) _
  simp only [Act.put, List.setIfInBounds_toArray, List.set_cons_zero, List.set_cons_succ]
  refine wpAnyH_take (i := 7) (v := ?_) rfl (by kernel_rfl) (by kernel_rfl) (by kernel_rfl) (fun _ _ _ h => h) (Or.inl ⟨by kernel_rfl, ?_⟩) hHeld ?_
  rotate_left
  · (intro w hSw; (try dsimp only at hSw); go_simp; try with_reducible rfl)
  change wpAnyH _ _ _ _ _ _ _ (Act.put _ (some 35) _) _
  simp only [Act.put, List.setIfInBounds_toArray, List.set_cons_zero, List.set_cons_succ]
  refine wpAnyH_take (i := 8) (v := ?_) rfl (by kernel_rfl) (by kernel_rfl) (by kernel_rfl) (fun _ _ _ h => h) (Or.inl ⟨by kernel_rfl, ?_⟩) hHeld ?_
  rotate_left
  · (intro w hSw; (try dsimp only at hSw); go_simp; try with_reducible rfl)
  change wpAnyH _ _ _ _ _ _ _ (Act.put _ (some 36) _) _
  simp only [Act.put, List.setIfInBounds_toArray, List.set_cons_zero, List.set_cons_succ]
  refine wpAnyH_take (i := 9) (v := ?_) rfl (by kernel_rfl) (by kernel_rfl) (by kernel_rfl) (fun _ _ _ h => h) (Or.inl ⟨by kernel_rfl, ?_⟩) hHeld ?_
  rotate_left
  · (intro w hSw; (try dsimp only at hSw); go_simp; try with_reducible rfl)
  change wpAnyH _ _ _ _ _ _ _ (Act.put _ (some 37) _) _
  simp only [Act.put, List.setIfInBounds_toArray, List.set_cons_zero, List.set_cons_succ]
  refine wpAnyH_take (i := 10) (v := ?_) rfl (by kernel_rfl) (by kernel_rfl) (by kernel_rfl) (fun _ _ _ h => h) (Or.inl ⟨by kernel_rfl, ?_⟩) hHeld ?_
  rotate_left
  · (intro w hSw; (try dsimp only at hSw); go_simp; try with_reducible rfl)
  change wpAnyH _ _ _ _ _ _ _ (Act.put _ (some 38) _) _
  simp only [Act.put, List.setIfInBounds_toArray, List.set_cons_zero, List.set_cons_succ]
  refine wpAnyH_take (i := 11) (v := ?_) rfl (by kernel_rfl) (by kernel_rfl) (by kernel_rfl) (fun _ _ _ h => h) (Or.inl ⟨by kernel_rfl, ?_⟩) hHeld ?_
  rotate_left
  · (intro w hSw; (try dsimp only at hSw); go_simp; try with_reducible rfl)
  change wpAnyH _ _ _ _ _ _ _ (Act.put _ (some 39) _) _
  simp only [Act.put, List.setIfInBounds_toArray, List.set_cons_zero, List.set_cons_succ]
  refine wpAnyH_take (i := 12) (v := ?_) rfl (by kernel_rfl) (by kernel_rfl) (by kernel_rfl) (fun _ _ _ h => h) (Or.inl ⟨by kernel_rfl, ?_⟩) hHeld ?_
  rotate_left
  · (intro w hSw; (try dsimp only at hSw); go_simp; try with_reducible rfl)
  change wpAnyH _ _ _ _ _ _ _ (Act.put _ (some 40) _) _
  simp only [Act.put, List.setIfInBounds_toArray, List.set_cons_zero, List.set_cons_succ]
  refine wpAnyH_take (i := 13) (v := ?_) rfl (by kernel_rfl) (by kernel_rfl) (by kernel_rfl) (fun _ _ _ h => h) (Or.inl ⟨by kernel_rfl, ?_⟩) hHeld ?_
  rotate_left
  · (intro w hSw; (try dsimp only at hSw); go_simp; try with_reducible rfl)
  change wpAnyH _ _ _ _ _ _ _ (Act.put _ (some 41) _) _
  simp only [Act.put, List.setIfInBounds_toArray, List.set_cons_zero, List.set_cons_succ]
  refine wpAnyH_take (i := 14) (v := ?_) rfl (by kernel_rfl) (by kernel_rfl) (by kernel_rfl) (fun _ _ _ h => h) (Or.inl ⟨by kernel_rfl, ?_⟩) hHeld ?_
  rotate_left
  · (intro w hSw; (try dsimp only at hSw); go_simp; try with_reducible rfl)
  change wpAnyH _ _ _ _ _ _ _ (Act.put _ (some 42) _) _
  simp only [Act.put, List.setIfInBounds_toArray, List.set_cons_zero, List.set_cons_succ]
  refine wpAnyH_take (i := 15) (v := ?_) rfl (by kernel_rfl) (by kernel_rfl) (by kernel_rfl) (fun _ _ _ h => h) (Or.inl ⟨by kernel_rfl, ?_⟩) hHeld ?_
  rotate_left
  · (intro w hSw; (try dsimp only at hSw); go_simp; try with_reducible rfl)
  change wpAnyH _ _ _ _ _ _ _ (Act.put _ (some 43) _) _
  simp only [Act.put, List.setIfInBounds_toArray, List.set_cons_zero, List.set_cons_succ]
  refine wpAnyH_take (i := 16) (v := ?_) rfl (by kernel_rfl) (by kernel_rfl) (by kernel_rfl) (fun _ _ _ h => h) (Or.inl ⟨by kernel_rfl, ?_⟩) hHeld ?_
  rotate_left
  · (intro w hSw; (try dsimp only at hSw); go_simp; try with_reducible rfl)
  change wpAnyH _ _ _ _ _ _ _ (Act.put _ (some 44) _) _
  simp only [Act.put, List.setIfInBounds_toArray, List.set_cons_zero, List.set_cons_succ]
  refine wpAnyH_take (i := 17) (v := ?_) rfl (by kernel_rfl) (by kernel_rfl) (by kernel_rfl) (fun _ _ _ h => h) (Or.inl ⟨by kernel_rfl, ?_⟩) hHeld ?_
  rotate_left
  · (intro w hSw; (try dsimp only at hSw); go_simp; try with_reducible rfl)
  change wpAnyH _ _ _ _ _ _ _ (Act.put _ (some 45) _) _
  simp only [Act.put, List.setIfInBounds_toArray, List.set_cons_zero, List.set_cons_succ]
  refine wpAnyH_ready (rs := [18]) (by kernel_rfl) (by simp) ?_
  refine AllReadyH.cons rfl (fun K hK => ?_) AllReadyH.nil
  go_simp
  refine hK.out _ _ ?_ (fun hHeld2 => ?_)
  · (refine ⟨?_, ?_, ?_, ?_, ?_⟩ <;> (go_simp; done))
  clear hK K hHeld
  have hHeld := hHeld2; clear hHeld2
  try simp only [Act.put, List.setIfInBounds_toArray, List.set_cons_zero, List.set_cons_succ]
  refine wpAnyH_take (i := 19) (v := ?_) rfl (by kernel_rfl) (by kernel_rfl) (by kernel_rfl) (fun _ _ _ h => h) (Or.inl ⟨by kernel_rfl, ?_⟩) hHeld ?_
  rotate_left
  · (intro w hSw; (try dsimp only at hSw); go_simp; try with_reducible rfl)
  change wpAnyH _ _ _ _ _ _ _ (Act.put _ (some 5) _) _
  simp only [Act.put, List.setIfInBounds_toArray, List.set_cons_zero, List.set_cons_succ]
  refine wpAnyH_take (i := 20) (v := ?_) rfl (by kernel_rfl) (by kernel_rfl) (by kernel_rfl) (fun _ _ _ h => h) (Or.inl ⟨by kernel_rfl, ?_⟩) hHeld ?_
  rotate_left
  · (intro w hSw; (try dsimp only at hSw); go_simp; try with_reducible rfl)
  change wpAnyH _ _ _ _ _ _ _ (Act.put _ (some 6) _) _
  simp only [Act.put, List.setIfInBounds_toArray, List.set_cons_zero, List.set_cons_succ]
  refine wpAnyH_done (by kernel_rfl) ?_ _
  go_wp2_with (fail)
  exact bodyPost_ret (v := .tuple #[.agg #[.int .i64 l.1.1.1, .int .i64 l.1.1.2, .int .i64 l.1.2], .int .i64 l.2, .bool true]) (by simp [results, Try.results23, go_sem, RBc0, RBc1, RBc2]) rfl ⟨rfl, only_three O2.out.drew (by simp) (by simp) (by simp) _ _ _⟩

end Go.Proofs.Ytcggeogpanackaa
