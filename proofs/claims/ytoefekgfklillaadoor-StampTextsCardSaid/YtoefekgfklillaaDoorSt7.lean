/- StampTexts: right stamps have texts of their own; the law's own walk. -/
import Derived.Test.YtoefekgfklillaaDoorSt5
import Derived.Test.YtoefekgfklillaaDoorReadLaw
namespace Go.Proofs.YtoefekgfklillaaDoor
open Go.RowKit Go.Kx
set_option maxRecDepth 20000

theorem stR_both {s : St} (h : stR s = true) : s.1.right = true ∧ 0 ≤ s.2 := by
  unfold stR at h
  simp only [Bool.and_eq_true, decide_eq_true_eq] at h
  exact ⟨h.1.1.1, h.1.1.2⟩
theorem textT_plus {t : Tm} (ho : t.ok) (h : t.right = true) : (43 : UInt8) ∉ textT t := by
  rcases right_cases ho h with rfl | ⟨n, d, f⟩
  · decide
  · intro hm
    have hn := (dec_props n).2.1
    have hd := (dec_props d).2.1
    have k : isDig 43 = false := by decide
    rw [text_fin f] at hm
    split at hm
    · have := hn _ hm; rw [k] at this; cases this
    · rcases List.mem_append.1 hm with hm | hm
      · rcases List.mem_append.1 hm with hm | hm
        · have := hn _ hm; rw [k] at this; cases this
        · exact absurd (List.mem_singleton.1 hm) (by decide)
      · have := hd _ hm; rw [k] at this; cases this
theorem textT_inj {a b : Tm} (ha : a.ok) (hb : b.ok) (ra : a.right = true) (rb : b.right = true) (h : textT a = textT b) : a = b := by
  have h1 := read_text ha ra
  rw [h, read_text hb rb] at h1
  exact (congrArg Prod.fst h1).symm
theorem textT_ne {a : Tm} (ha : a.ok) (ra : a.right = true) : textT a ≠ [] := by
  intro h
  have h1 := read_text ha ra
  rw [h, read_empty] at h1
  exact absurd (congrArg Prod.snd h1) (by simp)
theorem cut_same {α : Type} {x : α} : ∀ {a b c d : List α}, x ∉ a → x ∉ b → a ++ x :: c = b ++ x :: d → a = b ∧ c = d
  | [], [], _, _, _, _, h => ⟨rfl, (List.cons.inj h).2⟩
  | [], y :: b, _, _, _, hb, h => absurd (by rw [(List.cons.inj h).1]; simp) hb
  | y :: a, [], _, _, ha, _, h => absurd (by rw [← (List.cons.inj h).1]; simp) ha
  | y :: a, z :: b, _, _, ha, hb, h => by
    obtain ⟨h1, h2⟩ := List.cons.inj h
    obtain ⟨h3, h4⟩ := cut_same (fun k => ha (List.mem_cons_of_mem _ k)) (fun k => hb (List.mem_cons_of_mem _ k)) h2
    exact ⟨by rw [h1, h3], h4⟩
theorem stX_none {s : St} (h : stR s = false) : stX s = [] := by unfold stX; rw [if_neg (by rw [h]; simp)]
theorem stX_ne {s : St} (hs : s.ok) (h : stR s = true) : stX s ≠ [] := by
  have := textT_ne hs.1 (stR_both h).1
  unfold stX
  rw [if_pos h]
  split
  · exact this
  · simp
theorem stX_inj {a b : St} (ha : a.ok) (hb : b.ok) (ra : stR a = true) (rb : stR b = true) (h : stX a = stX b) : a = b := by
  obtain ⟨r1, p1⟩ := stR_both ra
  obtain ⟨r2, p2⟩ := stR_both rb
  have n1 := textT_plus ha.1 r1
  have n2 := textT_plus hb.1 r2
  unfold stX at h
  rw [if_pos ra, if_pos rb] at h
  by_cases z1 : a.2 = 0 <;> by_cases z2 : b.2 = 0
  · rw [if_pos z1, if_pos z2] at h
    exact Prod.ext (textT_inj ha.1 hb.1 r1 r2 h) (z1.trans z2.symm)
  · rw [if_pos z1, if_neg z2] at h
    exact absurd (by rw [h]; simp) n1
  · rw [if_neg z1, if_pos z2] at h
    exact absurd (by rw [← h]; simp) n2
  · rw [if_neg z1, if_neg z2] at h
    rw [List.append_assoc, List.append_assoc] at h
    obtain ⟨h1, h2⟩ := cut_same n1 n2 h
    have h2 : Lib.decDigits a.2.toNat = Lib.decDigits b.2.toNat := h2
    have h3 := congrArg valD h2
    rw [(dec_props _).2.2.1, (dec_props _).2.2.1] at h3
    exact Prod.ext (textT_inj ha.1 hb.1 r1 r2 h1) (by omega)
theorem eq_st25F {a b : St} (h : a ≠ b) (W : World) : (binOp .eql 25 (.agg #[.int .i64 a.1.1, .int .i64 a.1.2, .int .i64 a.2]) (.agg #[.int .i64 b.1.1, .int .i64 b.1.2, .int .i64 b.2])).run Tryd.prog W = .ok (.bool false) W := by
  obtain ⟨⟨x, y⟩, z⟩ := a
  obtain ⟨⟨x', y'⟩, z'⟩ := b
  by_cases h1 : x = x' <;> by_cases h2 : y = y' <;> by_cases h3 : z = z'
  · subst h1 h2 h3; exact absurd rfl h
  all_goals simp [go_sem, h1, h2, h3]

set_option maxHeartbeats 4000000 in
theorem sttexts_a (a b : St) (ha : a.ok) (hb : b.ok) {m : List UInt8} (h1 : stX a = []) (h2 : stX b = m) (r1 : stR a = false) (r2 : stR b = stR b) {w : World} (hw : Tab10 w) :
    Calls Tryd.prog 6 #[.agg #[.int .i64 a.1.1, .int .i64 a.1.2, .int .i64 a.2], .agg #[.int .i64 b.1.1, .int .i64 b.1.2, .int .i64 b.2]] w fun e w' => e = .returned (.bool true) ∧ Only [] w w' := by
  have H1 := Lib.hid h1
  have H2 := Lib.hid h2
  have R1 := Lib.hid r1
  have R2 := Lib.hid r2
  clear h1 h2 r1 r2
  have HW := Lib.hid hw
  clear hw
  have O0 := Lib.hid (Only.refl [] w)
  go_enter Tryd.func6, Tryd.ntmps6
  have B0 := Lib.hid ((Blk.alloc (by have h := Blk.new w 25 #[.int .i64 a.1.1, .int .i64 a.1.2, .int .i64 a.2]; simpa using h : Blk (w.alloc (.cells #[.int .i64 a.1.1, .int .i64 a.1.2, .int .i64 a.2] 25)) (w.heap.size) 25 #[.int .i64 a.1.1, .int .i64 a.1.2, .int .i64 a.2]) _) : Blk ((w.alloc (.cells #[.int .i64 a.1.1, .int .i64 a.1.2, .int .i64 a.2] 25)).alloc (.cells #[.int .i64 b.1.1, .int .i64 b.1.2, .int .i64 b.2] 25)) (w.heap.size) 25 #[.int .i64 a.1.1, .int .i64 a.1.2, .int .i64 a.2])
  have B1 := Lib.hid ((by have h := Blk.new (w.alloc (.cells #[.int .i64 a.1.1, .int .i64 a.1.2, .int .i64 a.2] 25)) 25 #[.int .i64 b.1.1, .int .i64 b.1.2, .int .i64 b.2]; simpa using h : Blk ((w.alloc (.cells #[.int .i64 a.1.1, .int .i64 a.1.2, .int .i64 a.2] 25)).alloc (.cells #[.int .i64 b.1.1, .int .i64 b.1.2, .int .i64 b.2] 25)) (w.heap.size + 1) 25 #[.int .i64 b.1.1, .int .i64 b.1.2, .int .i64 b.2]) : Blk ((w.alloc (.cells #[.int .i64 a.1.1, .int .i64 a.1.2, .int .i64 a.2] 25)).alloc (.cells #[.int .i64 b.1.1, .int .i64 b.1.2, .int .i64 b.2] 25)) (w.heap.size + 1) 25 #[.int .i64 b.1.1, .int .i64 b.1.2, .int .i64 b.2])
  have O1 := Lib.hid (((O0.out.alloc _).alloc _) : Only [] w ((w.alloc (.cells #[.int .i64 a.1.1, .int .i64 a.1.2, .int .i64 a.2] 25)).alloc (.cells #[.int .i64 b.1.1, .int .i64 b.1.2, .int .i64 b.2] 25)))
  clear O0
  go_wp2_with (fail)
  refine wp_region_facts 8 [] (fr := ?fr) (tl := ?tl) (fun i v wv => match i with
    | 0 => v = .agg #[.int .i64 a.1.1, .int .i64 a.1.2, .int .i64 a.2]
    | 1 => v = .agg #[.int .i64 a.1.1, .int .i64 a.1.2, .int .i64 a.2]
    | 2 => v = .string ⟨([] : List UInt8).toArray⟩
    | 3 => v = .agg #[.int .i64 b.1.1, .int .i64 b.1.2, .int .i64 b.2]
    | 4 => v = .agg #[.int .i64 b.1.1, .int .i64 b.1.2, .int .i64 b.2]
    | 5 => v = .string ⟨(m : List UInt8).toArray⟩
    | 6 => v = .string ⟨([] : List UInt8).toArray⟩
    | 7 => v = .string ⟨(m : List UInt8).toArray⟩
    | _ => True) (by kernel_rfl) (by kernel_rfl) (by kernel_rfl) (by kernel_rfl) (by decide) ?htl ?hfr ?stab ?steps ?done
  case htl => simp only [List.drop_succ_cons, List.drop_zero]; rfl
  case hfr => intro vals; simp only [putAll, dstAt, Act.put, List.getElem?_toArray, List.getElem?_cons_zero, List.getElem?_cons_succ, Option.bind_some, List.setIfInBounds_toArray, List.set_cons_zero, List.set_cons_succ]; rfl
  case stab =>
    intro i v wa wb h
    try dsimp only
    split <;> first | exact id | fail
  case steps =>
    refine ⟨?_, ?_, ?_, ?_, ?_, ?_, ?_, ?_, trivial⟩
    · intro vals wr hR hp K hK
      dsimp only at hK ⊢
      clear hp
      unfold RunsOp
      have tb0 := hR.blk (by first | exact B0.out | exact Blk.drew B0.out) (by simp)
      obtain ⟨c00, c01, c02, cl0⟩ := tb0.facts3
      clear tb0
      go_simp
      exact hK.out _ _ ⟨_, rfl, Only.refl _ _, rfl⟩
    · intro vals wr hR hp K hK
      dsimp only at hK ⊢
      obtain ⟨p0, -⟩ := hp
      replace p0 := p0 rfl
      dsimp only at p0
      rw [p0] at hK ⊢
      clear p0
      unfold RunsOp
      go_simp
      refine (of_any a _).mono ?_
      rintro e w2 ⟨rfl, o2⟩
      exact hK.out _ _ ⟨_, rfl, o2, rfl⟩
    · intro vals wr hR hp K hK
      dsimp only at hK ⊢
      obtain ⟨p1, -, -⟩ := hp
      replace p1 := p1 rfl
      dsimp only at p1
      obtain p1 := p1
      rw [p1] at hK ⊢
      clear p1
      unfold RunsOp
      have tt := HW.out.only (Only.trans (by first | exact O1.out.drew | exact (O1.out.drewN _).drew) hR (by simp))
      go_simp
      refine (sttextr a ha H1.out tt).mono ?_
      rintro e w2 ⟨rfl, o2⟩
      exact hK.out _ _ ⟨_, rfl, o2, rfl⟩
    · intro vals wr hR hp K hK
      dsimp only at hK ⊢
      clear hp
      unfold RunsOp
      have tb1 := hR.blk (by first | exact B1.out | exact Blk.drew B1.out) (by simp)
      obtain ⟨c10, c11, c12, cl1⟩ := tb1.facts3
      clear tb1
      go_simp
      exact hK.out _ _ ⟨_, rfl, Only.refl _ _, rfl⟩
    · intro vals wr hR hp K hK
      dsimp only at hK ⊢
      obtain ⟨p3, -, -⟩ := hp
      replace p3 := p3 rfl
      dsimp only at p3
      rw [p3] at hK ⊢
      clear p3
      unfold RunsOp
      go_simp
      refine (of_any b _).mono ?_
      rintro e w2 ⟨rfl, o2⟩
      exact hK.out _ _ ⟨_, rfl, o2, rfl⟩
    · intro vals wr hR hp K hK
      dsimp only at hK ⊢
      obtain ⟨p4, -, -⟩ := hp
      replace p4 := p4 rfl
      dsimp only at p4
      obtain p4 := p4
      rw [p4] at hK ⊢
      clear p4
      unfold RunsOp
      have tt := HW.out.only (Only.trans (by first | exact O1.out.drew | exact (O1.out.drewN _).drew) hR (by simp))
      go_simp
      refine (sttextr b hb H2.out tt).mono ?_
      rintro e w2 ⟨rfl, o2⟩
      exact hK.out _ _ ⟨_, rfl, o2, rfl⟩
    · intro vals wr hR hp K hK
      dsimp only at hK ⊢
      obtain ⟨p2, -, -, -, -, -, -, -, -⟩ := hp
      replace p2 := p2 rfl
      dsimp only at p2
      obtain p2 := p2
      rw [p2] at hK ⊢
      clear p2
      unfold RunsOp
      go_simp
      exact hK.out _ _ ⟨_, rfl, Only.refl _ _, rfl⟩
    · intro vals wr hR hp K hK
      dsimp only at hK ⊢
      obtain ⟨p5, -, -, -, -, -, -, -, -, -⟩ := hp
      replace p5 := p5 rfl
      dsimp only at p5
      obtain p5 := p5
      rw [p5] at hK ⊢
      clear p5
      unfold RunsOp
      go_simp
      exact hK.out _ _ ⟨_, rfl, Only.refl _ _, rfl⟩
  intro vals w2 hR hF
  have f6 : vals 6 = .string ⟨([] : List UInt8).toArray⟩ := hF 6 (by decide)
  have f7 : vals 7 = .string ⟨(m : List UInt8).toArray⟩ := hF 7 (by decide)
  rw [f6, f7]
  clear hF f6 f7
  refine wpList_nil ?_
  have B0x := hR.blk (t := 25) (cs := #[.int .i64 a.1.1, .int .i64 a.1.2, .int .i64 a.2]) (g := w.heap.size) (by first | exact B0.out | exact Blk.drewN B0.out _ | exact Blk.drew B0.out) (by simp)
  have B1x := hR.blk (t := 25) (cs := #[.int .i64 b.1.1, .int .i64 b.1.2, .int .i64 b.2]) (g := w.heap.size + 1) (by first | exact B1.out | exact Blk.drewN B1.out _ | exact Blk.drew B1.out) (by simp)
  have O2x : Only [] w w2 := (by first | exact Only.trans O1.out hR (by simp) | exact Only.trans (Only.drewN O1.out _) hR (by simp) | exact Only.trans (Only.drew O1.out) hR (by simp))
  obtain ⟨B0c0, B0c1, B0c2, B0l⟩ := B0x.facts3
  obtain ⟨B1c0, B1c1, B1c2, B1l⟩ := B1x.facts3
  clear B0 B1 O1 hR
  have B0 := Lib.hid B0x; have B1 := Lib.hid B1x; have O2 := Lib.hid O2x
  clear B0x B1x O2x
  go_wp2_with (fail)
  refine (of_any a _).mono ?_
  rintro e w3 ⟨rfl, o⟩
  have B0x := o.blk (t := 25) (cs := #[.int .i64 a.1.1, .int .i64 a.1.2, .int .i64 a.2]) (g := w.heap.size) (by first | exact B0.out | exact Blk.drewN B0.out _ | exact Blk.drew B0.out) (by simp)
  have B1x := o.blk (t := 25) (cs := #[.int .i64 b.1.1, .int .i64 b.1.2, .int .i64 b.2]) (g := w.heap.size + 1) (by first | exact B1.out | exact Blk.drewN B1.out _ | exact Blk.drew B1.out) (by simp)
  have O3x : Only [] w w3 := (by first | exact Only.trans O2.out o (by simp) | exact Only.trans (Only.drewN O2.out _) o (by simp) | exact Only.trans (Only.drew O2.out) o (by simp))
  obtain ⟨B0c0, B0c1, B0c2, B0l⟩ := B0x.facts3
  obtain ⟨B1c0, B1c1, B1c2, B1l⟩ := B1x.facts3
  clear B0 B1 O2 o
  have B0 := Lib.hid B0x; have B1 := Lib.hid B1x; have O3 := Lib.hid O3x
  clear B0x B1x O3x
  go_wp2_with (fail)
  refine (strightr ha R1.out _).mono ?_
  rintro e w4 ⟨rfl, o⟩
  have B0x := o.blk (t := 25) (cs := #[.int .i64 a.1.1, .int .i64 a.1.2, .int .i64 a.2]) (g := w.heap.size) (by first | exact B0.out | exact Blk.drewN B0.out _ | exact Blk.drew B0.out) (by simp)
  have B1x := o.blk (t := 25) (cs := #[.int .i64 b.1.1, .int .i64 b.1.2, .int .i64 b.2]) (g := w.heap.size + 1) (by first | exact B1.out | exact Blk.drewN B1.out _ | exact Blk.drew B1.out) (by simp)
  have O4x : Only [] w w4 := (by first | exact Only.trans O3.out o (by simp) | exact Only.trans (Only.drewN O3.out _) o (by simp) | exact Only.trans (Only.drew O3.out) o (by simp))
  obtain ⟨B0c0, B0c1, B0c2, B0l⟩ := B0x.facts3
  obtain ⟨B1c0, B1c1, B1c2, B1l⟩ := B1x.facts3
  clear B0 B1 O3 o
  have B0 := Lib.hid B0x; have B1 := Lib.hid B1x; have O4 := Lib.hid O4x
  clear B0x B1x O4x
  go_wp2_with (fail)
  refine (awake_any (HW.out.only (by first | exact O4.out | exact O4.out.alloc _ | exact (O4.out.alloc _).alloc _))).mono ?_
  rintro e w5 ⟨rfl, o⟩
  have B0x := o.blk (t := 25) (cs := #[.int .i64 a.1.1, .int .i64 a.1.2, .int .i64 a.2]) (g := w.heap.size) (by first | exact B0.out | exact Blk.drewN B0.out _ | exact Blk.drew B0.out) (by simp)
  have B1x := o.blk (t := 25) (cs := #[.int .i64 b.1.1, .int .i64 b.1.2, .int .i64 b.2]) (g := w.heap.size + 1) (by first | exact B1.out | exact Blk.drewN B1.out _ | exact Blk.drew B1.out) (by simp)
  have O5x : Only [] w w5 := (by first | exact Only.trans O4.out o (by simp) | exact Only.trans (Only.drewN O4.out _) o (by simp) | exact Only.trans (Only.drew O4.out) o (by simp))
  obtain ⟨B0c0, B0c1, B0c2, B0l⟩ := B0x.facts3
  obtain ⟨B1c0, B1c1, B1c2, B1l⟩ := B1x.facts3
  clear B0 B1 O4 o
  have B0 := Lib.hid B0x; have B1 := Lib.hid B1x; have O5 := Lib.hid O5x
  clear B0x B1x O5x
  go_wp2_with (fail)
  go_ret
  exact ⟨by first | rfl | simp, by first | exact O5.out | exact Only.drewN O5.out _⟩

set_option maxHeartbeats 4000000 in
theorem sttexts_b (a b : St) (ha : a.ok) (hb : b.ok) {l : List UInt8} (h1 : stX a = l) (h2 : stX b = []) (r1 : stR a = true) (r2 : stR b = false) (nl : l ≠ []) {w : World} (hw : Tab10 w) :
    Calls Tryd.prog 6 #[.agg #[.int .i64 a.1.1, .int .i64 a.1.2, .int .i64 a.2], .agg #[.int .i64 b.1.1, .int .i64 b.1.2, .int .i64 b.2]] w fun e w' => e = .returned (.bool true) ∧ Only [] w w' := by
  have H1 := Lib.hid h1
  have H2 := Lib.hid h2
  have R1 := Lib.hid r1
  have R2 := Lib.hid r2
  clear h1 h2 r1 r2
  have q1 : (l == []) = false := by simpa using nl
  have HW := Lib.hid hw
  clear hw
  have O0 := Lib.hid (Only.refl [] w)
  go_enter Tryd.func6, Tryd.ntmps6
  have B0 := Lib.hid ((Blk.alloc (by have h := Blk.new w 25 #[.int .i64 a.1.1, .int .i64 a.1.2, .int .i64 a.2]; simpa using h : Blk (w.alloc (.cells #[.int .i64 a.1.1, .int .i64 a.1.2, .int .i64 a.2] 25)) (w.heap.size) 25 #[.int .i64 a.1.1, .int .i64 a.1.2, .int .i64 a.2]) _) : Blk ((w.alloc (.cells #[.int .i64 a.1.1, .int .i64 a.1.2, .int .i64 a.2] 25)).alloc (.cells #[.int .i64 b.1.1, .int .i64 b.1.2, .int .i64 b.2] 25)) (w.heap.size) 25 #[.int .i64 a.1.1, .int .i64 a.1.2, .int .i64 a.2])
  have B1 := Lib.hid ((by have h := Blk.new (w.alloc (.cells #[.int .i64 a.1.1, .int .i64 a.1.2, .int .i64 a.2] 25)) 25 #[.int .i64 b.1.1, .int .i64 b.1.2, .int .i64 b.2]; simpa using h : Blk ((w.alloc (.cells #[.int .i64 a.1.1, .int .i64 a.1.2, .int .i64 a.2] 25)).alloc (.cells #[.int .i64 b.1.1, .int .i64 b.1.2, .int .i64 b.2] 25)) (w.heap.size + 1) 25 #[.int .i64 b.1.1, .int .i64 b.1.2, .int .i64 b.2]) : Blk ((w.alloc (.cells #[.int .i64 a.1.1, .int .i64 a.1.2, .int .i64 a.2] 25)).alloc (.cells #[.int .i64 b.1.1, .int .i64 b.1.2, .int .i64 b.2] 25)) (w.heap.size + 1) 25 #[.int .i64 b.1.1, .int .i64 b.1.2, .int .i64 b.2])
  have O1 := Lib.hid (((O0.out.alloc _).alloc _) : Only [] w ((w.alloc (.cells #[.int .i64 a.1.1, .int .i64 a.1.2, .int .i64 a.2] 25)).alloc (.cells #[.int .i64 b.1.1, .int .i64 b.1.2, .int .i64 b.2] 25)))
  clear O0
  go_wp2_with (fail)
  refine wp_region_facts 8 [] (fr := ?fr) (tl := ?tl) (fun i v wv => match i with
    | 0 => v = .agg #[.int .i64 a.1.1, .int .i64 a.1.2, .int .i64 a.2]
    | 1 => v = .agg #[.int .i64 a.1.1, .int .i64 a.1.2, .int .i64 a.2]
    | 2 => v = .string ⟨(l : List UInt8).toArray⟩
    | 3 => v = .agg #[.int .i64 b.1.1, .int .i64 b.1.2, .int .i64 b.2]
    | 4 => v = .agg #[.int .i64 b.1.1, .int .i64 b.1.2, .int .i64 b.2]
    | 5 => v = .string ⟨([] : List UInt8).toArray⟩
    | 6 => v = .string ⟨(l : List UInt8).toArray⟩
    | 7 => v = .string ⟨([] : List UInt8).toArray⟩
    | _ => True) (by kernel_rfl) (by kernel_rfl) (by kernel_rfl) (by kernel_rfl) (by decide) ?htl ?hfr ?stab ?steps ?done
  case htl => simp only [List.drop_succ_cons, List.drop_zero]; rfl
  case hfr => intro vals; simp only [putAll, dstAt, Act.put, List.getElem?_toArray, List.getElem?_cons_zero, List.getElem?_cons_succ, Option.bind_some, List.setIfInBounds_toArray, List.set_cons_zero, List.set_cons_succ]; rfl
  case stab =>
    intro i v wa wb h
    try dsimp only
    split <;> first | exact id | fail
  case steps =>
    refine ⟨?_, ?_, ?_, ?_, ?_, ?_, ?_, ?_, trivial⟩
    · intro vals wr hR hp K hK
      dsimp only at hK ⊢
      clear hp
      unfold RunsOp
      have tb0 := hR.blk (by first | exact B0.out | exact Blk.drew B0.out) (by simp)
      obtain ⟨c00, c01, c02, cl0⟩ := tb0.facts3
      clear tb0
      go_simp
      exact hK.out _ _ ⟨_, rfl, Only.refl _ _, rfl⟩
    · intro vals wr hR hp K hK
      dsimp only at hK ⊢
      obtain ⟨p0, -⟩ := hp
      replace p0 := p0 rfl
      dsimp only at p0
      rw [p0] at hK ⊢
      clear p0
      unfold RunsOp
      go_simp
      refine (of_any a _).mono ?_
      rintro e w2 ⟨rfl, o2⟩
      exact hK.out _ _ ⟨_, rfl, o2, rfl⟩
    · intro vals wr hR hp K hK
      dsimp only at hK ⊢
      obtain ⟨p1, -, -⟩ := hp
      replace p1 := p1 rfl
      dsimp only at p1
      obtain p1 := p1
      rw [p1] at hK ⊢
      clear p1
      unfold RunsOp
      have tt := HW.out.only (Only.trans (by first | exact O1.out.drew | exact (O1.out.drewN _).drew) hR (by simp))
      go_simp
      refine (sttextr a ha H1.out tt).mono ?_
      rintro e w2 ⟨rfl, o2⟩
      exact hK.out _ _ ⟨_, rfl, o2, rfl⟩
    · intro vals wr hR hp K hK
      dsimp only at hK ⊢
      clear hp
      unfold RunsOp
      have tb1 := hR.blk (by first | exact B1.out | exact Blk.drew B1.out) (by simp)
      obtain ⟨c10, c11, c12, cl1⟩ := tb1.facts3
      clear tb1
      go_simp
      exact hK.out _ _ ⟨_, rfl, Only.refl _ _, rfl⟩
    · intro vals wr hR hp K hK
      dsimp only at hK ⊢
      obtain ⟨p3, -, -⟩ := hp
      replace p3 := p3 rfl
      dsimp only at p3
      rw [p3] at hK ⊢
      clear p3
      unfold RunsOp
      go_simp
      refine (of_any b _).mono ?_
      rintro e w2 ⟨rfl, o2⟩
      exact hK.out _ _ ⟨_, rfl, o2, rfl⟩
    · intro vals wr hR hp K hK
      dsimp only at hK ⊢
      obtain ⟨p4, -, -⟩ := hp
      replace p4 := p4 rfl
      dsimp only at p4
      obtain p4 := p4
      rw [p4] at hK ⊢
      clear p4
      unfold RunsOp
      have tt := HW.out.only (Only.trans (by first | exact O1.out.drew | exact (O1.out.drewN _).drew) hR (by simp))
      go_simp
      refine (sttextr b hb H2.out tt).mono ?_
      rintro e w2 ⟨rfl, o2⟩
      exact hK.out _ _ ⟨_, rfl, o2, rfl⟩
    · intro vals wr hR hp K hK
      dsimp only at hK ⊢
      obtain ⟨p2, -, -, -, -, -, -, -, -⟩ := hp
      replace p2 := p2 rfl
      dsimp only at p2
      obtain p2 := p2
      rw [p2] at hK ⊢
      clear p2
      unfold RunsOp
      go_simp
      exact hK.out _ _ ⟨_, rfl, Only.refl _ _, rfl⟩
    · intro vals wr hR hp K hK
      dsimp only at hK ⊢
      obtain ⟨p5, -, -, -, -, -, -, -, -, -⟩ := hp
      replace p5 := p5 rfl
      dsimp only at p5
      obtain p5 := p5
      rw [p5] at hK ⊢
      clear p5
      unfold RunsOp
      go_simp
      exact hK.out _ _ ⟨_, rfl, Only.refl _ _, rfl⟩
  intro vals w2 hR hF
  have f6 : vals 6 = .string ⟨(l : List UInt8).toArray⟩ := hF 6 (by decide)
  have f7 : vals 7 = .string ⟨([] : List UInt8).toArray⟩ := hF 7 (by decide)
  rw [f6, f7]
  clear hF f6 f7
  refine wpList_nil ?_
  have B0x := hR.blk (t := 25) (cs := #[.int .i64 a.1.1, .int .i64 a.1.2, .int .i64 a.2]) (g := w.heap.size) (by first | exact B0.out | exact Blk.drewN B0.out _ | exact Blk.drew B0.out) (by simp)
  have B1x := hR.blk (t := 25) (cs := #[.int .i64 b.1.1, .int .i64 b.1.2, .int .i64 b.2]) (g := w.heap.size + 1) (by first | exact B1.out | exact Blk.drewN B1.out _ | exact Blk.drew B1.out) (by simp)
  have O2x : Only [] w w2 := (by first | exact Only.trans O1.out hR (by simp) | exact Only.trans (Only.drewN O1.out _) hR (by simp) | exact Only.trans (Only.drew O1.out) hR (by simp))
  obtain ⟨B0c0, B0c1, B0c2, B0l⟩ := B0x.facts3
  obtain ⟨B1c0, B1c1, B1c2, B1l⟩ := B1x.facts3
  clear B0 B1 O1 hR
  have B0 := Lib.hid B0x; have B1 := Lib.hid B1x; have O2 := Lib.hid O2x
  clear B0x B1x O2x
  go_wp2_with (fail)
  refine (of_any a _).mono ?_
  rintro e w3 ⟨rfl, o⟩
  have B0x := o.blk (t := 25) (cs := #[.int .i64 a.1.1, .int .i64 a.1.2, .int .i64 a.2]) (g := w.heap.size) (by first | exact B0.out | exact Blk.drewN B0.out _ | exact Blk.drew B0.out) (by simp)
  have B1x := o.blk (t := 25) (cs := #[.int .i64 b.1.1, .int .i64 b.1.2, .int .i64 b.2]) (g := w.heap.size + 1) (by first | exact B1.out | exact Blk.drewN B1.out _ | exact Blk.drew B1.out) (by simp)
  have O3x : Only [] w w3 := (by first | exact Only.trans O2.out o (by simp) | exact Only.trans (Only.drewN O2.out _) o (by simp) | exact Only.trans (Only.drew O2.out) o (by simp))
  obtain ⟨B0c0, B0c1, B0c2, B0l⟩ := B0x.facts3
  obtain ⟨B1c0, B1c1, B1c2, B1l⟩ := B1x.facts3
  clear B0 B1 O2 o
  have B0 := Lib.hid B0x; have B1 := Lib.hid B1x; have O3 := Lib.hid O3x
  clear B0x B1x O3x
  go_wp2_with (fail)
  refine (strightr ha R1.out _).mono ?_
  rintro e w4 ⟨rfl, o⟩
  have B0x := o.blk (t := 25) (cs := #[.int .i64 a.1.1, .int .i64 a.1.2, .int .i64 a.2]) (g := w.heap.size) (by first | exact B0.out | exact Blk.drewN B0.out _ | exact Blk.drew B0.out) (by simp)
  have B1x := o.blk (t := 25) (cs := #[.int .i64 b.1.1, .int .i64 b.1.2, .int .i64 b.2]) (g := w.heap.size + 1) (by first | exact B1.out | exact Blk.drewN B1.out _ | exact Blk.drew B1.out) (by simp)
  have O4x : Only [] w w4 := (by first | exact Only.trans O3.out o (by simp) | exact Only.trans (Only.drewN O3.out _) o (by simp) | exact Only.trans (Only.drew O3.out) o (by simp))
  obtain ⟨B0c0, B0c1, B0c2, B0l⟩ := B0x.facts3
  obtain ⟨B1c0, B1c1, B1c2, B1l⟩ := B1x.facts3
  clear B0 B1 O3 o
  have B0 := Lib.hid B0x; have B1 := Lib.hid B1x; have O4 := Lib.hid O4x
  clear B0x B1x O4x
  go_wp2_with (fail)
  refine (of_any b _).mono ?_
  rintro e w5 ⟨rfl, o⟩
  have B0x := o.blk (t := 25) (cs := #[.int .i64 a.1.1, .int .i64 a.1.2, .int .i64 a.2]) (g := w.heap.size) (by first | exact B0.out | exact Blk.drewN B0.out _ | exact Blk.drew B0.out) (by simp)
  have B1x := o.blk (t := 25) (cs := #[.int .i64 b.1.1, .int .i64 b.1.2, .int .i64 b.2]) (g := w.heap.size + 1) (by first | exact B1.out | exact Blk.drewN B1.out _ | exact Blk.drew B1.out) (by simp)
  have O5x : Only [] w w5 := (by first | exact Only.trans O4.out o (by simp) | exact Only.trans (Only.drewN O4.out _) o (by simp) | exact Only.trans (Only.drew O4.out) o (by simp))
  obtain ⟨B0c0, B0c1, B0c2, B0l⟩ := B0x.facts3
  obtain ⟨B1c0, B1c1, B1c2, B1l⟩ := B1x.facts3
  clear B0 B1 O4 o
  have B0 := Lib.hid B0x; have B1 := Lib.hid B1x; have O5 := Lib.hid O5x
  clear B0x B1x O5x
  go_wp2_with (fail)
  refine (strightr hb R2.out _).mono ?_
  rintro e w6 ⟨rfl, o⟩
  have B0x := o.blk (t := 25) (cs := #[.int .i64 a.1.1, .int .i64 a.1.2, .int .i64 a.2]) (g := w.heap.size) (by first | exact B0.out | exact Blk.drewN B0.out _ | exact Blk.drew B0.out) (by simp)
  have B1x := o.blk (t := 25) (cs := #[.int .i64 b.1.1, .int .i64 b.1.2, .int .i64 b.2]) (g := w.heap.size + 1) (by first | exact B1.out | exact Blk.drewN B1.out _ | exact Blk.drew B1.out) (by simp)
  have O6x : Only [] w w6 := (by first | exact Only.trans O5.out o (by simp) | exact Only.trans (Only.drewN O5.out _) o (by simp) | exact Only.trans (Only.drew O5.out) o (by simp))
  obtain ⟨B0c0, B0c1, B0c2, B0l⟩ := B0x.facts3
  obtain ⟨B1c0, B1c1, B1c2, B1l⟩ := B1x.facts3
  clear B0 B1 O5 o
  have B0 := Lib.hid B0x; have B1 := Lib.hid B1x; have O6 := Lib.hid O6x
  clear B0x B1x O6x
  go_wp2_with (fail)
  refine (awake_any (HW.out.only (by first | exact O6.out | exact O6.out.alloc _ | exact (O6.out.alloc _).alloc _))).mono ?_
  rintro e w7 ⟨rfl, o⟩
  have B0x := o.blk (t := 25) (cs := #[.int .i64 a.1.1, .int .i64 a.1.2, .int .i64 a.2]) (g := w.heap.size) (by first | exact B0.out | exact Blk.drewN B0.out _ | exact Blk.drew B0.out) (by simp)
  have B1x := o.blk (t := 25) (cs := #[.int .i64 b.1.1, .int .i64 b.1.2, .int .i64 b.2]) (g := w.heap.size + 1) (by first | exact B1.out | exact Blk.drewN B1.out _ | exact Blk.drew B1.out) (by simp)
  have O7x : Only [] w w7 := (by first | exact Only.trans O6.out o (by simp) | exact Only.trans (Only.drewN O6.out _) o (by simp) | exact Only.trans (Only.drew O6.out) o (by simp))
  obtain ⟨B0c0, B0c1, B0c2, B0l⟩ := B0x.facts3
  obtain ⟨B1c0, B1c1, B1c2, B1l⟩ := B1x.facts3
  clear B0 B1 O6 o
  have B0 := Lib.hid B0x; have B1 := Lib.hid B1x; have O7 := Lib.hid O7x
  clear B0x B1x O7x
  go_wp2_with (fail)
  go_ret
  exact ⟨by first | rfl | simp, by first | exact O7.out | exact Only.drewN O7.out _⟩

set_option maxHeartbeats 4000000 in
theorem sttexts_c (a : St) (ha : a.ok) (hb : a.ok) {l : List UInt8} (h1 : stX a = l) (h2 : stX a = l) (r1 : stR a = true) (r2 : stR a = true) (nl : l ≠ []) {w : World} (hw : Tab10 w) :
    Calls Tryd.prog 6 #[.agg #[.int .i64 a.1.1, .int .i64 a.1.2, .int .i64 a.2], .agg #[.int .i64 a.1.1, .int .i64 a.1.2, .int .i64 a.2]] w fun e w' => e = .returned (.bool true) ∧ Only [] w w' := by
  have H1 := Lib.hid h1
  have H2 := Lib.hid h2
  have R1 := Lib.hid r1
  have R2 := Lib.hid r2
  clear h1 h2 r1 r2
  have q1 : (l == []) = false := by simpa using nl
  have q2 := eq_st25T a
  have HW := Lib.hid hw
  clear hw
  have O0 := Lib.hid (Only.refl [] w)
  go_enter Tryd.func6, Tryd.ntmps6
  have B0 := Lib.hid ((Blk.alloc (by have h := Blk.new w 25 #[.int .i64 a.1.1, .int .i64 a.1.2, .int .i64 a.2]; simpa using h : Blk (w.alloc (.cells #[.int .i64 a.1.1, .int .i64 a.1.2, .int .i64 a.2] 25)) (w.heap.size) 25 #[.int .i64 a.1.1, .int .i64 a.1.2, .int .i64 a.2]) _) : Blk ((w.alloc (.cells #[.int .i64 a.1.1, .int .i64 a.1.2, .int .i64 a.2] 25)).alloc (.cells #[.int .i64 a.1.1, .int .i64 a.1.2, .int .i64 a.2] 25)) (w.heap.size) 25 #[.int .i64 a.1.1, .int .i64 a.1.2, .int .i64 a.2])
  have B1 := Lib.hid ((by have h := Blk.new (w.alloc (.cells #[.int .i64 a.1.1, .int .i64 a.1.2, .int .i64 a.2] 25)) 25 #[.int .i64 a.1.1, .int .i64 a.1.2, .int .i64 a.2]; simpa using h : Blk ((w.alloc (.cells #[.int .i64 a.1.1, .int .i64 a.1.2, .int .i64 a.2] 25)).alloc (.cells #[.int .i64 a.1.1, .int .i64 a.1.2, .int .i64 a.2] 25)) (w.heap.size + 1) 25 #[.int .i64 a.1.1, .int .i64 a.1.2, .int .i64 a.2]) : Blk ((w.alloc (.cells #[.int .i64 a.1.1, .int .i64 a.1.2, .int .i64 a.2] 25)).alloc (.cells #[.int .i64 a.1.1, .int .i64 a.1.2, .int .i64 a.2] 25)) (w.heap.size + 1) 25 #[.int .i64 a.1.1, .int .i64 a.1.2, .int .i64 a.2])
  have O1 := Lib.hid (((O0.out.alloc _).alloc _) : Only [] w ((w.alloc (.cells #[.int .i64 a.1.1, .int .i64 a.1.2, .int .i64 a.2] 25)).alloc (.cells #[.int .i64 a.1.1, .int .i64 a.1.2, .int .i64 a.2] 25)))
  clear O0
  go_wp2_with (fail)
  refine wp_region_facts 8 [] (fr := ?fr) (tl := ?tl) (fun i v wv => match i with
    | 0 => v = .agg #[.int .i64 a.1.1, .int .i64 a.1.2, .int .i64 a.2]
    | 1 => v = .agg #[.int .i64 a.1.1, .int .i64 a.1.2, .int .i64 a.2]
    | 2 => v = .string ⟨(l : List UInt8).toArray⟩
    | 3 => v = .agg #[.int .i64 a.1.1, .int .i64 a.1.2, .int .i64 a.2]
    | 4 => v = .agg #[.int .i64 a.1.1, .int .i64 a.1.2, .int .i64 a.2]
    | 5 => v = .string ⟨(l : List UInt8).toArray⟩
    | 6 => v = .string ⟨(l : List UInt8).toArray⟩
    | 7 => v = .string ⟨(l : List UInt8).toArray⟩
    | _ => True) (by kernel_rfl) (by kernel_rfl) (by kernel_rfl) (by kernel_rfl) (by decide) ?htl ?hfr ?stab ?steps ?done
  case htl => simp only [List.drop_succ_cons, List.drop_zero]; rfl
  case hfr => intro vals; simp only [putAll, dstAt, Act.put, List.getElem?_toArray, List.getElem?_cons_zero, List.getElem?_cons_succ, Option.bind_some, List.setIfInBounds_toArray, List.set_cons_zero, List.set_cons_succ]; rfl
  case stab =>
    intro i v wa wb h
    try dsimp only
    split <;> first | exact id | fail
  case steps =>
    refine ⟨?_, ?_, ?_, ?_, ?_, ?_, ?_, ?_, trivial⟩
    · intro vals wr hR hp K hK
      dsimp only at hK ⊢
      clear hp
      unfold RunsOp
      have tb0 := hR.blk (by first | exact B0.out | exact Blk.drew B0.out) (by simp)
      obtain ⟨c00, c01, c02, cl0⟩ := tb0.facts3
      clear tb0
      go_simp
      exact hK.out _ _ ⟨_, rfl, Only.refl _ _, rfl⟩
    · intro vals wr hR hp K hK
      dsimp only at hK ⊢
      obtain ⟨p0, -⟩ := hp
      replace p0 := p0 rfl
      dsimp only at p0
      rw [p0] at hK ⊢
      clear p0
      unfold RunsOp
      go_simp
      refine (of_any a _).mono ?_
      rintro e w2 ⟨rfl, o2⟩
      exact hK.out _ _ ⟨_, rfl, o2, rfl⟩
    · intro vals wr hR hp K hK
      dsimp only at hK ⊢
      obtain ⟨p1, -, -⟩ := hp
      replace p1 := p1 rfl
      dsimp only at p1
      obtain p1 := p1
      rw [p1] at hK ⊢
      clear p1
      unfold RunsOp
      have tt := HW.out.only (Only.trans (by first | exact O1.out.drew | exact (O1.out.drewN _).drew) hR (by simp))
      go_simp
      refine (sttextr a ha H1.out tt).mono ?_
      rintro e w2 ⟨rfl, o2⟩
      exact hK.out _ _ ⟨_, rfl, o2, rfl⟩
    · intro vals wr hR hp K hK
      dsimp only at hK ⊢
      clear hp
      unfold RunsOp
      have tb1 := hR.blk (by first | exact B1.out | exact Blk.drew B1.out) (by simp)
      obtain ⟨c10, c11, c12, cl1⟩ := tb1.facts3
      clear tb1
      go_simp
      exact hK.out _ _ ⟨_, rfl, Only.refl _ _, rfl⟩
    · intro vals wr hR hp K hK
      dsimp only at hK ⊢
      obtain ⟨p3, -, -⟩ := hp
      replace p3 := p3 rfl
      dsimp only at p3
      rw [p3] at hK ⊢
      clear p3
      unfold RunsOp
      go_simp
      refine (of_any a _).mono ?_
      rintro e w2 ⟨rfl, o2⟩
      exact hK.out _ _ ⟨_, rfl, o2, rfl⟩
    · intro vals wr hR hp K hK
      dsimp only at hK ⊢
      obtain ⟨p4, -, -⟩ := hp
      replace p4 := p4 rfl
      dsimp only at p4
      obtain p4 := p4
      rw [p4] at hK ⊢
      clear p4
      unfold RunsOp
      have tt := HW.out.only (Only.trans (by first | exact O1.out.drew | exact (O1.out.drewN _).drew) hR (by simp))
      go_simp
      refine (sttextr a hb H2.out tt).mono ?_
      rintro e w2 ⟨rfl, o2⟩
      exact hK.out _ _ ⟨_, rfl, o2, rfl⟩
    · intro vals wr hR hp K hK
      dsimp only at hK ⊢
      obtain ⟨p2, -, -, -, -, -, -, -, -⟩ := hp
      replace p2 := p2 rfl
      dsimp only at p2
      obtain p2 := p2
      rw [p2] at hK ⊢
      clear p2
      unfold RunsOp
      go_simp
      exact hK.out _ _ ⟨_, rfl, Only.refl _ _, rfl⟩
    · intro vals wr hR hp K hK
      dsimp only at hK ⊢
      obtain ⟨p5, -, -, -, -, -, -, -, -, -⟩ := hp
      replace p5 := p5 rfl
      dsimp only at p5
      obtain p5 := p5
      rw [p5] at hK ⊢
      clear p5
      unfold RunsOp
      go_simp
      exact hK.out _ _ ⟨_, rfl, Only.refl _ _, rfl⟩
  intro vals w2 hR hF
  have f6 : vals 6 = .string ⟨(l : List UInt8).toArray⟩ := hF 6 (by decide)
  have f7 : vals 7 = .string ⟨(l : List UInt8).toArray⟩ := hF 7 (by decide)
  rw [f6, f7]
  clear hF f6 f7
  refine wpList_nil ?_
  have B0x := hR.blk (t := 25) (cs := #[.int .i64 a.1.1, .int .i64 a.1.2, .int .i64 a.2]) (g := w.heap.size) (by first | exact B0.out | exact Blk.drewN B0.out _ | exact Blk.drew B0.out) (by simp)
  have B1x := hR.blk (t := 25) (cs := #[.int .i64 a.1.1, .int .i64 a.1.2, .int .i64 a.2]) (g := w.heap.size + 1) (by first | exact B1.out | exact Blk.drewN B1.out _ | exact Blk.drew B1.out) (by simp)
  have O2x : Only [] w w2 := (by first | exact Only.trans O1.out hR (by simp) | exact Only.trans (Only.drewN O1.out _) hR (by simp) | exact Only.trans (Only.drew O1.out) hR (by simp))
  obtain ⟨B0c0, B0c1, B0c2, B0l⟩ := B0x.facts3
  obtain ⟨B1c0, B1c1, B1c2, B1l⟩ := B1x.facts3
  clear B0 B1 O1 hR
  have B0 := Lib.hid B0x; have B1 := Lib.hid B1x; have O2 := Lib.hid O2x
  clear B0x B1x O2x
  go_wp2_with (fail)
  refine (of_any a _).mono ?_
  rintro e w3 ⟨rfl, o⟩
  have B0x := o.blk (t := 25) (cs := #[.int .i64 a.1.1, .int .i64 a.1.2, .int .i64 a.2]) (g := w.heap.size) (by first | exact B0.out | exact Blk.drewN B0.out _ | exact Blk.drew B0.out) (by simp)
  have B1x := o.blk (t := 25) (cs := #[.int .i64 a.1.1, .int .i64 a.1.2, .int .i64 a.2]) (g := w.heap.size + 1) (by first | exact B1.out | exact Blk.drewN B1.out _ | exact Blk.drew B1.out) (by simp)
  have O3x : Only [] w w3 := (by first | exact Only.trans O2.out o (by simp) | exact Only.trans (Only.drewN O2.out _) o (by simp) | exact Only.trans (Only.drew O2.out) o (by simp))
  obtain ⟨B0c0, B0c1, B0c2, B0l⟩ := B0x.facts3
  obtain ⟨B1c0, B1c1, B1c2, B1l⟩ := B1x.facts3
  clear B0 B1 O2 o
  have B0 := Lib.hid B0x; have B1 := Lib.hid B1x; have O3 := Lib.hid O3x
  clear B0x B1x O3x
  go_wp2_with (fail)
  refine (strightr ha R1.out _).mono ?_
  rintro e w4 ⟨rfl, o⟩
  have B0x := o.blk (t := 25) (cs := #[.int .i64 a.1.1, .int .i64 a.1.2, .int .i64 a.2]) (g := w.heap.size) (by first | exact B0.out | exact Blk.drewN B0.out _ | exact Blk.drew B0.out) (by simp)
  have B1x := o.blk (t := 25) (cs := #[.int .i64 a.1.1, .int .i64 a.1.2, .int .i64 a.2]) (g := w.heap.size + 1) (by first | exact B1.out | exact Blk.drewN B1.out _ | exact Blk.drew B1.out) (by simp)
  have O4x : Only [] w w4 := (by first | exact Only.trans O3.out o (by simp) | exact Only.trans (Only.drewN O3.out _) o (by simp) | exact Only.trans (Only.drew O3.out) o (by simp))
  obtain ⟨B0c0, B0c1, B0c2, B0l⟩ := B0x.facts3
  obtain ⟨B1c0, B1c1, B1c2, B1l⟩ := B1x.facts3
  clear B0 B1 O3 o
  have B0 := Lib.hid B0x; have B1 := Lib.hid B1x; have O4 := Lib.hid O4x
  clear B0x B1x O4x
  go_wp2_with (fail)
  refine (of_any a _).mono ?_
  rintro e w5 ⟨rfl, o⟩
  have B0x := o.blk (t := 25) (cs := #[.int .i64 a.1.1, .int .i64 a.1.2, .int .i64 a.2]) (g := w.heap.size) (by first | exact B0.out | exact Blk.drewN B0.out _ | exact Blk.drew B0.out) (by simp)
  have B1x := o.blk (t := 25) (cs := #[.int .i64 a.1.1, .int .i64 a.1.2, .int .i64 a.2]) (g := w.heap.size + 1) (by first | exact B1.out | exact Blk.drewN B1.out _ | exact Blk.drew B1.out) (by simp)
  have O5x : Only [] w w5 := (by first | exact Only.trans O4.out o (by simp) | exact Only.trans (Only.drewN O4.out _) o (by simp) | exact Only.trans (Only.drew O4.out) o (by simp))
  obtain ⟨B0c0, B0c1, B0c2, B0l⟩ := B0x.facts3
  obtain ⟨B1c0, B1c1, B1c2, B1l⟩ := B1x.facts3
  clear B0 B1 O4 o
  have B0 := Lib.hid B0x; have B1 := Lib.hid B1x; have O5 := Lib.hid O5x
  clear B0x B1x O5x
  go_wp2_with (fail)
  refine (strightr hb R2.out _).mono ?_
  rintro e w6 ⟨rfl, o⟩
  have B0x := o.blk (t := 25) (cs := #[.int .i64 a.1.1, .int .i64 a.1.2, .int .i64 a.2]) (g := w.heap.size) (by first | exact B0.out | exact Blk.drewN B0.out _ | exact Blk.drew B0.out) (by simp)
  have B1x := o.blk (t := 25) (cs := #[.int .i64 a.1.1, .int .i64 a.1.2, .int .i64 a.2]) (g := w.heap.size + 1) (by first | exact B1.out | exact Blk.drewN B1.out _ | exact Blk.drew B1.out) (by simp)
  have O6x : Only [] w w6 := (by first | exact Only.trans O5.out o (by simp) | exact Only.trans (Only.drewN O5.out _) o (by simp) | exact Only.trans (Only.drew O5.out) o (by simp))
  obtain ⟨B0c0, B0c1, B0c2, B0l⟩ := B0x.facts3
  obtain ⟨B1c0, B1c1, B1c2, B1l⟩ := B1x.facts3
  clear B0 B1 O5 o
  have B0 := Lib.hid B0x; have B1 := Lib.hid B1x; have O6 := Lib.hid O6x
  clear B0x B1x O6x
  go_wp2_with (fail)
  refine (awake_any (HW.out.only (by first | exact O6.out | exact O6.out.alloc _ | exact (O6.out.alloc _).alloc _))).mono ?_
  rintro e w7 ⟨rfl, o⟩
  have B0x := o.blk (t := 25) (cs := #[.int .i64 a.1.1, .int .i64 a.1.2, .int .i64 a.2]) (g := w.heap.size) (by first | exact B0.out | exact Blk.drewN B0.out _ | exact Blk.drew B0.out) (by simp)
  have B1x := o.blk (t := 25) (cs := #[.int .i64 a.1.1, .int .i64 a.1.2, .int .i64 a.2]) (g := w.heap.size + 1) (by first | exact B1.out | exact Blk.drewN B1.out _ | exact Blk.drew B1.out) (by simp)
  have O7x : Only [] w w7 := (by first | exact Only.trans O6.out o (by simp) | exact Only.trans (Only.drewN O6.out _) o (by simp) | exact Only.trans (Only.drew O6.out) o (by simp))
  obtain ⟨B0c0, B0c1, B0c2, B0l⟩ := B0x.facts3
  obtain ⟨B1c0, B1c1, B1c2, B1l⟩ := B1x.facts3
  clear B0 B1 O6 o
  have B0 := Lib.hid B0x; have B1 := Lib.hid B1x; have O7 := Lib.hid O7x
  clear B0x B1x O7x
  go_wp2_with (fail)
  go_ret
  exact ⟨by first | rfl | simp, by first | exact O7.out | exact Only.drewN O7.out _⟩

set_option maxHeartbeats 4000000 in
theorem sttexts_d (a b : St) (ha : a.ok) (hb : b.ok) {l m : List UInt8} (h1 : stX a = l) (h2 : stX b = m) (r1 : stR a = true) (r2 : stR b = true) (e : a ≠ b) (nl : l ≠ []) (nm : l ≠ m) {w : World} (hw : Tab10 w) :
    Calls Tryd.prog 6 #[.agg #[.int .i64 a.1.1, .int .i64 a.1.2, .int .i64 a.2], .agg #[.int .i64 b.1.1, .int .i64 b.1.2, .int .i64 b.2]] w fun e w' => e = .returned (.bool true) ∧ Only [] w w' := by
  have H1 := Lib.hid h1
  have H2 := Lib.hid h2
  have R1 := Lib.hid r1
  have R2 := Lib.hid r2
  clear h1 h2 r1 r2
  have q1 : (l == []) = false := by simpa using nl
  have q3 : (l == m) = false := by simpa using nm
  have q2 := eq_st25F e
  have HW := Lib.hid hw
  clear hw
  have O0 := Lib.hid (Only.refl [] w)
  go_enter Tryd.func6, Tryd.ntmps6
  have B0 := Lib.hid ((Blk.alloc (by have h := Blk.new w 25 #[.int .i64 a.1.1, .int .i64 a.1.2, .int .i64 a.2]; simpa using h : Blk (w.alloc (.cells #[.int .i64 a.1.1, .int .i64 a.1.2, .int .i64 a.2] 25)) (w.heap.size) 25 #[.int .i64 a.1.1, .int .i64 a.1.2, .int .i64 a.2]) _) : Blk ((w.alloc (.cells #[.int .i64 a.1.1, .int .i64 a.1.2, .int .i64 a.2] 25)).alloc (.cells #[.int .i64 b.1.1, .int .i64 b.1.2, .int .i64 b.2] 25)) (w.heap.size) 25 #[.int .i64 a.1.1, .int .i64 a.1.2, .int .i64 a.2])
  have B1 := Lib.hid ((by have h := Blk.new (w.alloc (.cells #[.int .i64 a.1.1, .int .i64 a.1.2, .int .i64 a.2] 25)) 25 #[.int .i64 b.1.1, .int .i64 b.1.2, .int .i64 b.2]; simpa using h : Blk ((w.alloc (.cells #[.int .i64 a.1.1, .int .i64 a.1.2, .int .i64 a.2] 25)).alloc (.cells #[.int .i64 b.1.1, .int .i64 b.1.2, .int .i64 b.2] 25)) (w.heap.size + 1) 25 #[.int .i64 b.1.1, .int .i64 b.1.2, .int .i64 b.2]) : Blk ((w.alloc (.cells #[.int .i64 a.1.1, .int .i64 a.1.2, .int .i64 a.2] 25)).alloc (.cells #[.int .i64 b.1.1, .int .i64 b.1.2, .int .i64 b.2] 25)) (w.heap.size + 1) 25 #[.int .i64 b.1.1, .int .i64 b.1.2, .int .i64 b.2])
  have O1 := Lib.hid (((O0.out.alloc _).alloc _) : Only [] w ((w.alloc (.cells #[.int .i64 a.1.1, .int .i64 a.1.2, .int .i64 a.2] 25)).alloc (.cells #[.int .i64 b.1.1, .int .i64 b.1.2, .int .i64 b.2] 25)))
  clear O0
  go_wp2_with (fail)
  refine wp_region_facts 8 [] (fr := ?fr) (tl := ?tl) (fun i v wv => match i with
    | 0 => v = .agg #[.int .i64 a.1.1, .int .i64 a.1.2, .int .i64 a.2]
    | 1 => v = .agg #[.int .i64 a.1.1, .int .i64 a.1.2, .int .i64 a.2]
    | 2 => v = .string ⟨(l : List UInt8).toArray⟩
    | 3 => v = .agg #[.int .i64 b.1.1, .int .i64 b.1.2, .int .i64 b.2]
    | 4 => v = .agg #[.int .i64 b.1.1, .int .i64 b.1.2, .int .i64 b.2]
    | 5 => v = .string ⟨(m : List UInt8).toArray⟩
    | 6 => v = .string ⟨(l : List UInt8).toArray⟩
    | 7 => v = .string ⟨(m : List UInt8).toArray⟩
    | _ => True) (by kernel_rfl) (by kernel_rfl) (by kernel_rfl) (by kernel_rfl) (by decide) ?htl ?hfr ?stab ?steps ?done
  case htl => simp only [List.drop_succ_cons, List.drop_zero]; rfl
  case hfr => intro vals; simp only [putAll, dstAt, Act.put, List.getElem?_toArray, List.getElem?_cons_zero, List.getElem?_cons_succ, Option.bind_some, List.setIfInBounds_toArray, List.set_cons_zero, List.set_cons_succ]; rfl
  case stab =>
    intro i v wa wb h
    try dsimp only
    split <;> first | exact id | fail
  case steps =>
    refine ⟨?_, ?_, ?_, ?_, ?_, ?_, ?_, ?_, trivial⟩
    · intro vals wr hR hp K hK
      dsimp only at hK ⊢
      clear hp
      unfold RunsOp
      have tb0 := hR.blk (by first | exact B0.out | exact Blk.drew B0.out) (by simp)
      obtain ⟨c00, c01, c02, cl0⟩ := tb0.facts3
      clear tb0
      go_simp
      exact hK.out _ _ ⟨_, rfl, Only.refl _ _, rfl⟩
    · intro vals wr hR hp K hK
      dsimp only at hK ⊢
      obtain ⟨p0, -⟩ := hp
      replace p0 := p0 rfl
      dsimp only at p0
      rw [p0] at hK ⊢
      clear p0
      unfold RunsOp
      go_simp
      refine (of_any a _).mono ?_
      rintro e w2 ⟨rfl, o2⟩
      exact hK.out _ _ ⟨_, rfl, o2, rfl⟩
    · intro vals wr hR hp K hK
      dsimp only at hK ⊢
      obtain ⟨p1, -, -⟩ := hp
      replace p1 := p1 rfl
      dsimp only at p1
      obtain p1 := p1
      rw [p1] at hK ⊢
      clear p1
      unfold RunsOp
      have tt := HW.out.only (Only.trans (by first | exact O1.out.drew | exact (O1.out.drewN _).drew) hR (by simp))
      go_simp
      refine (sttextr a ha H1.out tt).mono ?_
      rintro e w2 ⟨rfl, o2⟩
      exact hK.out _ _ ⟨_, rfl, o2, rfl⟩
    · intro vals wr hR hp K hK
      dsimp only at hK ⊢
      clear hp
      unfold RunsOp
      have tb1 := hR.blk (by first | exact B1.out | exact Blk.drew B1.out) (by simp)
      obtain ⟨c10, c11, c12, cl1⟩ := tb1.facts3
      clear tb1
      go_simp
      exact hK.out _ _ ⟨_, rfl, Only.refl _ _, rfl⟩
    · intro vals wr hR hp K hK
      dsimp only at hK ⊢
      obtain ⟨p3, -, -⟩ := hp
      replace p3 := p3 rfl
      dsimp only at p3
      rw [p3] at hK ⊢
      clear p3
      unfold RunsOp
      go_simp
      refine (of_any b _).mono ?_
      rintro e w2 ⟨rfl, o2⟩
      exact hK.out _ _ ⟨_, rfl, o2, rfl⟩
    · intro vals wr hR hp K hK
      dsimp only at hK ⊢
      obtain ⟨p4, -, -⟩ := hp
      replace p4 := p4 rfl
      dsimp only at p4
      obtain p4 := p4
      rw [p4] at hK ⊢
      clear p4
      unfold RunsOp
      have tt := HW.out.only (Only.trans (by first | exact O1.out.drew | exact (O1.out.drewN _).drew) hR (by simp))
      go_simp
      refine (sttextr b hb H2.out tt).mono ?_
      rintro e w2 ⟨rfl, o2⟩
      exact hK.out _ _ ⟨_, rfl, o2, rfl⟩
    · intro vals wr hR hp K hK
      dsimp only at hK ⊢
      obtain ⟨p2, -, -, -, -, -, -, -, -⟩ := hp
      replace p2 := p2 rfl
      dsimp only at p2
      obtain p2 := p2
      rw [p2] at hK ⊢
      clear p2
      unfold RunsOp
      go_simp
      exact hK.out _ _ ⟨_, rfl, Only.refl _ _, rfl⟩
    · intro vals wr hR hp K hK
      dsimp only at hK ⊢
      obtain ⟨p5, -, -, -, -, -, -, -, -, -⟩ := hp
      replace p5 := p5 rfl
      dsimp only at p5
      obtain p5 := p5
      rw [p5] at hK ⊢
      clear p5
      unfold RunsOp
      go_simp
      exact hK.out _ _ ⟨_, rfl, Only.refl _ _, rfl⟩
  intro vals w2 hR hF
  have f6 : vals 6 = .string ⟨(l : List UInt8).toArray⟩ := hF 6 (by decide)
  have f7 : vals 7 = .string ⟨(m : List UInt8).toArray⟩ := hF 7 (by decide)
  rw [f6, f7]
  clear hF f6 f7
  refine wpList_nil ?_
  have B0x := hR.blk (t := 25) (cs := #[.int .i64 a.1.1, .int .i64 a.1.2, .int .i64 a.2]) (g := w.heap.size) (by first | exact B0.out | exact Blk.drewN B0.out _ | exact Blk.drew B0.out) (by simp)
  have B1x := hR.blk (t := 25) (cs := #[.int .i64 b.1.1, .int .i64 b.1.2, .int .i64 b.2]) (g := w.heap.size + 1) (by first | exact B1.out | exact Blk.drewN B1.out _ | exact Blk.drew B1.out) (by simp)
  have O2x : Only [] w w2 := (by first | exact Only.trans O1.out hR (by simp) | exact Only.trans (Only.drewN O1.out _) hR (by simp) | exact Only.trans (Only.drew O1.out) hR (by simp))
  obtain ⟨B0c0, B0c1, B0c2, B0l⟩ := B0x.facts3
  obtain ⟨B1c0, B1c1, B1c2, B1l⟩ := B1x.facts3
  clear B0 B1 O1 hR
  have B0 := Lib.hid B0x; have B1 := Lib.hid B1x; have O2 := Lib.hid O2x
  clear B0x B1x O2x
  go_wp2_with (fail)
  refine (of_any a _).mono ?_
  rintro e w3 ⟨rfl, o⟩
  have B0x := o.blk (t := 25) (cs := #[.int .i64 a.1.1, .int .i64 a.1.2, .int .i64 a.2]) (g := w.heap.size) (by first | exact B0.out | exact Blk.drewN B0.out _ | exact Blk.drew B0.out) (by simp)
  have B1x := o.blk (t := 25) (cs := #[.int .i64 b.1.1, .int .i64 b.1.2, .int .i64 b.2]) (g := w.heap.size + 1) (by first | exact B1.out | exact Blk.drewN B1.out _ | exact Blk.drew B1.out) (by simp)
  have O3x : Only [] w w3 := (by first | exact Only.trans O2.out o (by simp) | exact Only.trans (Only.drewN O2.out _) o (by simp) | exact Only.trans (Only.drew O2.out) o (by simp))
  obtain ⟨B0c0, B0c1, B0c2, B0l⟩ := B0x.facts3
  obtain ⟨B1c0, B1c1, B1c2, B1l⟩ := B1x.facts3
  clear B0 B1 O2 o
  have B0 := Lib.hid B0x; have B1 := Lib.hid B1x; have O3 := Lib.hid O3x
  clear B0x B1x O3x
  go_wp2_with (fail)
  refine (strightr ha R1.out _).mono ?_
  rintro e w4 ⟨rfl, o⟩
  have B0x := o.blk (t := 25) (cs := #[.int .i64 a.1.1, .int .i64 a.1.2, .int .i64 a.2]) (g := w.heap.size) (by first | exact B0.out | exact Blk.drewN B0.out _ | exact Blk.drew B0.out) (by simp)
  have B1x := o.blk (t := 25) (cs := #[.int .i64 b.1.1, .int .i64 b.1.2, .int .i64 b.2]) (g := w.heap.size + 1) (by first | exact B1.out | exact Blk.drewN B1.out _ | exact Blk.drew B1.out) (by simp)
  have O4x : Only [] w w4 := (by first | exact Only.trans O3.out o (by simp) | exact Only.trans (Only.drewN O3.out _) o (by simp) | exact Only.trans (Only.drew O3.out) o (by simp))
  obtain ⟨B0c0, B0c1, B0c2, B0l⟩ := B0x.facts3
  obtain ⟨B1c0, B1c1, B1c2, B1l⟩ := B1x.facts3
  clear B0 B1 O3 o
  have B0 := Lib.hid B0x; have B1 := Lib.hid B1x; have O4 := Lib.hid O4x
  clear B0x B1x O4x
  go_wp2_with (fail)
  refine (of_any b _).mono ?_
  rintro e w5 ⟨rfl, o⟩
  have B0x := o.blk (t := 25) (cs := #[.int .i64 a.1.1, .int .i64 a.1.2, .int .i64 a.2]) (g := w.heap.size) (by first | exact B0.out | exact Blk.drewN B0.out _ | exact Blk.drew B0.out) (by simp)
  have B1x := o.blk (t := 25) (cs := #[.int .i64 b.1.1, .int .i64 b.1.2, .int .i64 b.2]) (g := w.heap.size + 1) (by first | exact B1.out | exact Blk.drewN B1.out _ | exact Blk.drew B1.out) (by simp)
  have O5x : Only [] w w5 := (by first | exact Only.trans O4.out o (by simp) | exact Only.trans (Only.drewN O4.out _) o (by simp) | exact Only.trans (Only.drew O4.out) o (by simp))
  obtain ⟨B0c0, B0c1, B0c2, B0l⟩ := B0x.facts3
  obtain ⟨B1c0, B1c1, B1c2, B1l⟩ := B1x.facts3
  clear B0 B1 O4 o
  have B0 := Lib.hid B0x; have B1 := Lib.hid B1x; have O5 := Lib.hid O5x
  clear B0x B1x O5x
  go_wp2_with (fail)
  refine (strightr hb R2.out _).mono ?_
  rintro e w6 ⟨rfl, o⟩
  have B0x := o.blk (t := 25) (cs := #[.int .i64 a.1.1, .int .i64 a.1.2, .int .i64 a.2]) (g := w.heap.size) (by first | exact B0.out | exact Blk.drewN B0.out _ | exact Blk.drew B0.out) (by simp)
  have B1x := o.blk (t := 25) (cs := #[.int .i64 b.1.1, .int .i64 b.1.2, .int .i64 b.2]) (g := w.heap.size + 1) (by first | exact B1.out | exact Blk.drewN B1.out _ | exact Blk.drew B1.out) (by simp)
  have O6x : Only [] w w6 := (by first | exact Only.trans O5.out o (by simp) | exact Only.trans (Only.drewN O5.out _) o (by simp) | exact Only.trans (Only.drew O5.out) o (by simp))
  obtain ⟨B0c0, B0c1, B0c2, B0l⟩ := B0x.facts3
  obtain ⟨B1c0, B1c1, B1c2, B1l⟩ := B1x.facts3
  clear B0 B1 O5 o
  have B0 := Lib.hid B0x; have B1 := Lib.hid B1x; have O6 := Lib.hid O6x
  clear B0x B1x O6x
  go_wp2_with (fail)
  refine (awake_any (HW.out.only (by first | exact O6.out | exact O6.out.alloc _ | exact (O6.out.alloc _).alloc _))).mono ?_
  rintro e w7 ⟨rfl, o⟩
  have B0x := o.blk (t := 25) (cs := #[.int .i64 a.1.1, .int .i64 a.1.2, .int .i64 a.2]) (g := w.heap.size) (by first | exact B0.out | exact Blk.drewN B0.out _ | exact Blk.drew B0.out) (by simp)
  have B1x := o.blk (t := 25) (cs := #[.int .i64 b.1.1, .int .i64 b.1.2, .int .i64 b.2]) (g := w.heap.size + 1) (by first | exact B1.out | exact Blk.drewN B1.out _ | exact Blk.drew B1.out) (by simp)
  have O7x : Only [] w w7 := (by first | exact Only.trans O6.out o (by simp) | exact Only.trans (Only.drewN O6.out _) o (by simp) | exact Only.trans (Only.drew O6.out) o (by simp))
  obtain ⟨B0c0, B0c1, B0c2, B0l⟩ := B0x.facts3
  obtain ⟨B1c0, B1c1, B1c2, B1l⟩ := B1x.facts3
  clear B0 B1 O6 o
  have B0 := Lib.hid B0x; have B1 := Lib.hid B1x; have O7 := Lib.hid O7x
  clear B0x B1x O7x
  go_wp2_with (fail)
  go_ret
  exact ⟨by first | rfl | simp, by first | exact O7.out | exact Only.drewN O7.out _⟩

theorem sttexts_any (a b : St) (ha : a.ok) (hb : b.ok) {w : World} (hw : Tab10 w) :
    Calls Tryd.prog 6 #[.agg #[.int .i64 a.1.1, .int .i64 a.1.2, .int .i64 a.2], .agg #[.int .i64 b.1.1, .int .i64 b.1.2, .int .i64 b.2]] w fun e w' => e = .returned (.bool true) ∧ Only [] w w' := by
  rcases ra : stR a with _ | _
  · exact sttexts_a a b ha hb (m := stX b) (stX_none ra) rfl ra rfl hw
  · rcases rb : stR b with _ | _
    · exact sttexts_b a b ha hb rfl (stX_none rb) ra rb (stX_ne ha ra) hw
    · by_cases e : a = b
      · subst e; exact sttexts_c a ha hb rfl rfl ra rb (stX_ne ha ra) hw
      · exact sttexts_d a b ha hb rfl rfl ra rb e (stX_ne ha ra) (fun h => e (stX_inj ha hb ra rb h)) hw
end Go.Proofs.YtoefekgfklillaaDoor
