/- BagAts: the law's own walk. -/
import Derived.Test.YtpedlapemgjgaaaAwake
namespace Go.Proofs.Ytpedlapemgjgaaa
open Go.RowKit Go.Kx Go.Bag
attribute [local go_sem] Oper.semAt_some
set_option maxRecDepth 100000
theorem delK_len {L : List Int} {x : Int} : (delK keyI L x).length = if hasK keyI L x = true then L.length - 1 else L.length := by
  unfold delK hasK
  rw [List.length_eraseP]
theorem ats_many {A : Option Addr} {cap : Nat} {L : List Int} {x : Int} {w : World} (hl : 200 < L.length) (h1 : L.length ≤ 9223372036854775807) :
    Calls Try.prog 6 #[.slice A L.length cap, .int .i64 x] w fun e w' => e = .returned (.bool true) ∧ Only [] w w' := by
  generalize L.length = n at *
  have hg : decide ((200 : Int) < (n : Int)) = true := by simp; omega
  have br : Blk (w.alloc (.cells #[.bool false] 4)) w.heap.size 4 #[.bool false] := Blk.new w 4 _
  have oo : Only [] w (w.alloc (.cells #[.bool false] 4)) := (Only.refl _ _).alloc _
  have HBR := Lib.hid br
  have HOO := Lib.hid oo
  clear br oo
  refine calls_marks Try.func6 rfl ?_
  simp only [Try.ntmps6, List.size_toArray, List.length_cons, List.length_nil, Nat.reduceAdd, Nat.reduceSub, Array.replicate_succ, Array.replicate_zero, List.push_toArray, List.append_toArray, List.nil_append, List.cons_append]
  go_wp2_with (fail)
  refine (awake_any _).mono ?_
  rintro e w1 ⟨rfl, o1⟩
  have R1 := Lib.hid (o1.blk HBR.out (by simp))
  have HO1 := Lib.hid (HOO.out.trans o1 (by simp))
  clear o1
  go_wp2_with (fail)
  refine (awake_any _).mono ?_
  rintro e w2 ⟨rfl, o2⟩
  have hr4 := o2.blk R1.out (by simp)
  have HO4 := Lib.hid (HO1.out.trans o2 (by simp))
  obtain ⟨r0, rl⟩ := hr4.facts1
  have fr := hr4.frozen 0
  have hr2 := hr4.set_ 0 (.bool true)
  obtain ⟨x0, _⟩ := Blk.facts1 (a := .bool true) hr2
  have X0 := Lib.hid x0
  clear o2 hr4 hr2 x0
  go_wp2_with (fail)
  exact ⟨.bool true, by simp [results, Try.results6, go_sem, X0.out], rfl, HO4.out.setCell (.inr (by simp)) _⟩
set_option maxHeartbeats 4000000 in
theorem ats_few {A : Option Addr} {cap : Nat} {L : List Int} {x : Int} {w : World} (hL : RowC w A (flat1 L)) (h1 : L.length ≤ 200) :
    Calls Try.prog 6 #[.slice A L.length cap, .int .i64 x] w fun e w' => e = .returned (.bool true) ∧ Only [] w w' := by
  obtain ⟨n, hn⟩ : ∃ n, L.length = n := ⟨_, rfl⟩
  rw [hn] at h1 ⊢
  have HN := Lib.hid hn
  have HL := Lib.hid hL
  clear hn hL
  have hg : decide ((200 : Int) < (n : Int)) = false := by simp; omega
  have br : Blk (w.alloc (.cells #[.bool false] 4)) w.heap.size 4 #[.bool false] := Blk.new w 4 _
  have oo : Only [] w (w.alloc (.cells #[.bool false] 4)) := (Only.refl _ _).alloc _
  have HBR := Lib.hid br
  have HOO := Lib.hid oo
  clear br oo
  refine calls_marks Try.func6 rfl ?_
  simp only [Try.ntmps6, List.size_toArray, List.length_cons, List.length_nil, Nat.reduceAdd, Nat.reduceSub, Array.replicate_succ, Array.replicate_zero, List.push_toArray, List.append_toArray, List.nil_append, List.cons_append]
  go_wp2_with (fail)
  refine (awake_any _).mono ?_
  rintro e w1 ⟨rfl, o1⟩
  obtain ⟨rb, hrb⟩ : ∃ rb, w.heap.size = rb := ⟨_, rfl⟩
  have R1 := Lib.hid (o1.blk HBR.out (by simp))
  have HO1 := Lib.hid (HOO.out.trans o1 (by simp))
  rw [hrb] at R1
  rw [hrb]
  have HWB := Lib.hid hrb
  clear o1 HBR HOO hg hrb
  go_wp2_with (fail)
  refine (newI (cl := cap) (HL.out.only HO1.out) HN.out (by omega)).mono ?_
  rintro e w4 ⟨rfl, ⟨Ax, cx, hb4⟩, o4⟩
  obtain ⟨g, hgx⟩ : ∃ g, w1.heap.size = g := ⟨_, rfl⟩
  rw [hgx] at hb4 ⊢
  have hgr : rb < g := by rw [← hgx]; exact R1.out.lt
  have o5 : Only [] w4 (w4.alloc (.cells #[.pointer (some ⟨g, 0, none⟩)] 24)) := (Only.refl _ _).alloc _
  have q5 := Blk.new w4 24 #[.pointer (some ⟨g, 0, none⟩)]
  have hgl : g < w4.heap.size := hb4.blk.lt
  have HB5 := Lib.hid (hb4.keep o5)
  have HO5 := Lib.hid ((HO1.out.trans o4 (by simp)).trans o5 (by simp))
  have R5 := Lib.hid ((o4.blk R1.out (by simp)).alloc (.cells #[.pointer (some ⟨g, 0, none⟩)] 24))
  have Q5 := Lib.hid q5
  have HSL := Lib.hid (show (st keyI L).length = n by rw [st_len, HN.out])
  have HSB := Lib.hid (show ∀ y ∈ blkA Ax, g ≤ y ∧ y < w4.heap.size from blkA_lt hb4)
  have C5 := lenI (hb4.keep o5)
  rw [HSL.out] at C5
  have HC5 := Lib.hid C5
  clear hb4 o4 o5 q5 HO1 R1 hgx C5
  go_wp2_with (fail)
  obtain ⟨pb, hpb⟩ : ∃ pb, w4.heap.size = pb := ⟨_, rfl⟩
  generalize w4.alloc (.cells #[.pointer (some ⟨g, 0, none⟩)] 24) = w5 at HB5 HO5 R5 Q5 HC5 ⊢
  rw [hpb] at Q5 hgl HSB ⊢
  clear hpb
  have hpl := Q5.out.lt
  refine HC5.out.mono ?_
  clear HC5
  rintro e w6 ⟨rfl, rfl⟩
  have hg5 := HB5.out.blk.lt
  have HD := Lib.hid (dropI HB5.out x (by rw [HSL.out]; omega) (Nat.le_of_lt hg5))
  obtain ⟨p0, pl⟩ := Q5.out.facts1
  go_wp2_with (fail)
  refine HD.out.mono ?_
  rw [show keyI x = x from rfl]
  rintro e w7 ⟨rfl, ⟨A7, c7, hb7⟩, o7⟩
  obtain ⟨hs, hhs⟩ : ∃ hs, hasK keyI (st keyI L) x = hs := ⟨_, rfl⟩
  obtain ⟨D, hDd⟩ : ∃ D, delK keyI (st keyI L) x = D := ⟨_, rfl⟩
  obtain ⟨m, hm⟩ : ∃ m, D.length = m := ⟨_, rfl⟩
  have HM := Lib.hid hm
  have hdl : m = if hs = true then n - 1 else n := by
    rw [← hm, ← hDd, delK_len, hhs, HSL.out]
  have hn0 : hs = true → 0 < n := fun h => by
    rw [← hhs] at h
    rw [← HSL.out]
    unfold hasK at h
    obtain ⟨y, hy, -⟩ := List.any_eq_true.1 h
    exact List.length_pos_of_mem hy
  have htest : ((m : Int) == (n : Int) - 1) = hs := by
    cases hs with
    | true =>
      have := hn0 rfl
      have h2 : m = n - 1 := hdl
      rw [beq_iff_eq]
      omega
    | false =>
      have h2 : m = n := hdl
      exact beq_eq_false_iff_ne.2 (by omega)
  rw [hhs]
  rw [hDd] at hb7
  have hmn : m ≤ n := by rw [hdl]; split <;> omega
  have HB7 := Lib.hid hb7
  have R7 := Lib.hid (o7.blk R5.out (by simp; omega))
  have Q7 := Lib.hid (o7.blk Q5.out (by simp; omega))
  have HO7 := Lib.hid (HO5.out.trans o7 (fun y hy => .inr (by have := HWB.out; simp at hy; omega)))
  have C7 := lenI hb7
  rw [hm] at C7
  have HC7 := Lib.hid C7
  obtain ⟨q0, ql⟩ := Q7.out.facts1
  clear C7 hb7 o7 HB5 R5 Q5 HO5 p0 pl hpl HD hDd hhs hdl hn0 hm
  go_wp2_with (fail)
  refine HC7.out.mono ?_
  clear HC7
  rintro e w8 ⟨rfl, rfl⟩
  go_wp2_with (fail)
  clear htest
  refine (all_any (some ⟨g, 0, none⟩) w7).mono ?_
  rintro e w9' ⟨rfl, rfl⟩
  have bc := Blk.new w7 24 #[.pointer (some ⟨g, 0, none⟩)]
  have o9 : Only [] w7 (w7.alloc (.cells #[.pointer (some ⟨g, 0, none⟩)] 24)) := (Only.refl _ _).alloc _
  have h89 := bc.lt
  generalize w7.alloc (.cells #[.pointer (some ⟨g, 0, none⟩)] 24) = w9 at bc o9 h89 ⊢
  obtain ⟨cb, hcb⟩ : ∃ cb, w7.heap.size = cb := ⟨_, rfl⟩
  rw [hcb] at bc h89 ql ⊢
  have hbl7 := blkA_lt HB7.out
  have R9 := Lib.hid (o9.blk R7.out (by simp))
  have Q9 := Lib.hid (o9.blk Q7.out (by simp))
  have HB9 := Lib.hid (HB7.out.keep o9)
  have HO9 := Lib.hid (HO7.out.trans o9 (by simp))
  have HQ := Lib.hid (all_seqs HB9.out (by rw [HM.out]; omega) bc)
  have HPB := Lib.hid (show ∀ b ∈ cb :: g :: blkA A7, b ∉ [rb] from fun b hb hm => by
    rcases List.mem_cons.1 hb with h | h
    · simp at hm; omega
    · rcases List.mem_cons.1 h with h | h
      · simp at hm; omega
      · have := hbl7 b h
        simp at hm
        omega)
  clear bc o9 R7 Q7 HO7 HB7 hcb hbl7 q0
  have hrb9 := R9.out.lt
  go_wp2_with (fail)
  refine' wp_rangeFunc_seqsT (gf := 36) (lb := #[.pointer (some ⟨cb, 0, none⟩)]) (vs := pairs 0 D) (prot := cb :: g :: blkA A7) rfl (enters Try.func36 (by kernel_rfl) rfl)
    HQ.out (by
      intro v hv
      obtain ⟨k, hk⟩ := List.mem_iff_getElem?.1 hv
      obtain ⟨x, _, rfl⟩ := pairs_has hk
      rfl) [rb] (by simp; omega) HPB.out
    (fun k S W => S = [rb] ∧ Only [] w9 W)
    (fun c S W => False) ?hI ?hIx ?h0
    _ (fun k V => V) (fun k V => Only.refl [] V) ?assign ?body ?done ?stop
  case assign =>
    intro l k v w K hv hK
    obtain ⟨x, hx, rfl⟩ := pairs_has hv
    obtain rfl : gi D k = x := gi_at hx
    clear hv hx
    gi_wp2
    exact hK
  case hI =>
    rintro k S W1 W2 ⟨rfl, h5⟩ hk
    exact ⟨rfl, h5.keepT hk (Nat.le_refl _)⟩
  case hIx => exact fun _ _ _ _ h => h.elim
  case h0 => exact ⟨rfl, Only.refl _ _⟩
  case stop => exact fun _ _ _ _ _ _ h => h.elim
  case body =>
    rintro l2 k vv S V X hv ⟨rfl, hO⟩ hk
    obtain ⟨y, hy, rfl⟩ := pairs_has hv
    have hgy : gi D k = y := gi_at hy
    simp only [hgy]
    have HAT := Lib.hid (atI (HB9.out.keep hO) hy)
    obtain ⟨q0, ql2⟩ := (hO.blk Q9.out (by simp)).facts1
    have HOX := Lib.hid hO
    have e0 : (y != y) = false := by simp
    clear hk hv hy hgy hO
    gi_wp2_with (fail)
    refine ⟨trivial, CallsIn.inRound l2 (callsIn_wide.2 (HAT.out.mono ?_))⟩
    rintro e' w4' ⟨rfl, o4⟩
    have HO4' := Lib.hid o4
    clear o4 q0 ql2
    gi_wp2_with (fail)
    exact ⟨⟨_, ⟨rfl, HOX.out.trans HO4'.out (by simp)⟩, fun b hb => .inl hb⟩, HO4'.out.mono (fun _ h => by simp at h)⟩
  case done =>
    rintro D' S W hD hDS ⟨rfl, hO⟩ hKd
    have HBW := Lib.hid (HB9.out.keep hO)
    have HRB := Lib.hid (hO.blk R9.out (by simp))
    have HQB := Lib.hid (hO.blk Q9.out (by simp))
    have HOO := Lib.hid (HO9.out.trans hO (by simp))
    have HD := Lib.hid hKd
    obtain ⟨q0, ql2⟩ := HQB.out.facts1
    have HAT := Lib.hid (atoutI HBW.out (k := -1) (.inl (by omega)))
    have hz9 := hO.size
    clear hKd hDS hO
    go_wp2_with (fail)
    refine HAT.out.mono ?_
    clear HAT q0 ql2
    rintro e wq ⟨rfl, o2⟩
    have HB2 := Lib.hid (HBW.out.keep o2)
    have HQ2 := Lib.hid (o2.blk HQB.out (by simp))
    have HR2 := Lib.hid (o2.blk HRB.out (by simp))
    have HO2 := Lib.hid (HOO.out.trans o2 (by simp))
    have HD2 := Lib.hid ((o2.block D' (Array.getElem?_eq_some_iff.1 HD.out).1 (by simp)).trans HD.out)
    have HC1 := Lib.hid (fun (W' : World) (o : Only [] wq W') => lenI (HB2.out.keep o))
    rw [HM.out] at HC1
    have HC2 := Lib.hid (fun (W' : World) (o : Only [] wq W') => atoutI (HB2.out.keep o) (k := (m : Int)) (.inr (by rw [HM.out]; exact Int.le_refl _)))
    clear o2 HBW HQB HRB HOO HD
    go_wp2_with (fail)
    refine wp_region_facts 9 [] (fr := ?frg) (tl := ?tlg) (fun i v wv => match i with
      | 0 => v = .pointer (some ⟨g, 0, none⟩)
      | 1 => v = .pointer (some ⟨g, 0, none⟩)
      | 2 => v = .int .i64 (m : Nat)
      | 3 => v = .tuple #[.int .i64 0, .bool false]
      | 4 => v = .tuple #[.int .i64 0, .bool false]
      | 5 => v = .int .i64 0
      | 6 => v = .bool false
      | 7 => v = .int .i64 0
      | 8 => v = .bool false
      | _ => True) (by kernel_rfl) (by kernel_rfl) (by kernel_rfl) (by kernel_rfl) (by decide) ?htlg ?hfrg ?stabg ?stepsg ?doneg
    case htlg => simp only [List.drop_succ_cons, List.drop_zero]; rfl
    case hfrg => intro vals; simp only [putAll, dstAt, Act.put, List.getElem?_toArray, List.getElem?_cons_zero, List.getElem?_cons_succ, Option.bind_some, List.setIfInBounds_toArray, List.set_cons_zero, List.set_cons_succ]; rfl
    case stabg =>
      intro i v wa wb h
      try dsimp only
      split <;> first | exact id | exact id
    case stepsg =>
      refine ⟨?_, ?_, ?_, ?_, ?_, ?_, ?_, ?_, ?_, trivial⟩
      · intro vals wr hR hp K hK
        dsimp only at hK ⊢
        clear hp
        unfold RunsOp
        have tg := hR.blk (Blk.drew HQ2.out) (by simp)
        obtain ⟨k0, kl⟩ := tg.facts1
        clear tg
        go_simp
        exact hK.out _ _ ⟨_, rfl, Only.refl _ _, rfl⟩
      · intro vals wr hR hp K hK
        dsimp only at hK ⊢
        clear hp
        unfold RunsOp
        have tg := hR.blk (Blk.drew HQ2.out) (by simp)
        obtain ⟨k0, kl⟩ := tg.facts1
        clear tg
        go_simp
        exact hK.out _ _ ⟨_, rfl, Only.refl _ _, rfl⟩
      · intro vals wr hR hp K hK
        dsimp only at hK ⊢
        obtain ⟨p1, -⟩ := hp
        replace p1 := p1 rfl
        dsimp only at p1
        rw [p1] at hK ⊢
        clear p1
        unfold RunsOp
        go_simp
        refine (HC1.out _ ((Only.refl [] wq).drew.trans hR (by simp))).mono ?_
        rintro e' w2 ⟨rfl, rfl⟩
        exact hK.out _ _ ⟨_, rfl, Only.refl _ _, rfl⟩
      · intro vals wr hR hp K hK
        dsimp only at hK ⊢
        obtain ⟨p0, p2, -, -⟩ := hp
        replace p0 := p0 rfl
        replace p2 := p2 rfl
        dsimp only at p0 p2
        rw [p0, p2] at hK ⊢
        clear p0 p2
        unfold RunsOp
        go_simp
        refine (HC2.out _ ((Only.refl [] wq).drew.trans hR (by simp))).mono ?_
        rintro e' w2 ⟨rfl, o2⟩
        exact hK.out _ _ ⟨_, rfl, o2, rfl⟩
      · intro vals wr hR hp K hK
        dsimp only at hK ⊢
        obtain ⟨p3, -⟩ := hp
        replace p3 := p3 rfl
        dsimp only at p3
        rw [p3] at hK ⊢
        clear p3
        unfold RunsOp
        go_simp
        exact hK.out _ _ ⟨_, rfl, Only.refl _ _, rfl⟩
      · intro vals wr hR hp K hK
        dsimp only at hK ⊢
        obtain ⟨p4, -⟩ := hp
        replace p4 := p4 rfl
        dsimp only at p4
        rw [p4] at hK ⊢
        clear p4
        unfold RunsOp
        go_simp
        exact hK.out _ _ ⟨_, rfl, Only.refl _ _, rfl⟩
      · intro vals wr hR hp K hK
        dsimp only at hK ⊢
        obtain ⟨p4, -, -⟩ := hp
        replace p4 := p4 rfl
        dsimp only at p4
        rw [p4] at hK ⊢
        clear p4
        unfold RunsOp
        go_simp
        exact hK.out _ _ ⟨_, rfl, Only.refl _ _, rfl⟩
      · intro vals wr hR hp K hK
        dsimp only at hK ⊢
        obtain ⟨p5, -, -, -, -, -, -, -, -, -⟩ := hp
        replace p5 := p5 rfl
        dsimp only at p5
        rw [p5] at hK ⊢
        clear p5
        unfold RunsOp
        go_simp
        exact hK.out _ _ ⟨_, rfl, Only.refl _ _, rfl⟩
      · intro vals wr hR hp K hK
        dsimp only at hK ⊢
        obtain ⟨p6, -, -, -, -, -, -, -, -, -, -⟩ := hp
        replace p6 := p6 rfl
        dsimp only at p6
        rw [p6] at hK ⊢
        clear p6
        unfold RunsOp
        go_simp
        exact hK.out _ _ ⟨_, rfl, Only.refl _ _, rfl⟩
    case doneg =>
      intro vals wd hR hF
      have f0 : vals 0 = .pointer (some ⟨g, 0, none⟩) := hF 0 (by decide)
      have f1 : vals 1 = .pointer (some ⟨g, 0, none⟩) := hF 1 (by decide)
      have f2 : (vals 2) = .int .i64 (m : Nat) := hF 2 (by decide)
      have f3 : (vals 3) = .tuple #[.int .i64 0, .bool false] := hF 3 (by decide)
      have f4 : vals 4 = .tuple #[.int .i64 0, .bool false] := hF 4 (by decide)
      have f5 : vals 5 = .int .i64 0 := hF 5 (by decide)
      have f6 : vals 6 = .bool false := hF 6 (by decide)
      have f7 : vals 7 = .int .i64 0 := hF 7 (by decide)
      have f8 : vals 8 = .bool false := hF 8 (by decide)
      rw [f0, f1, f4, f5, f6, f7, f8]
      clear f0 f1 f4 f5 f6 f7 f8
      rw [f2, f3]
      clear f2 f3
      have HOd := Lib.hid ((Only.refl [] wq).drew.trans hR (by simp))
      refine wpList_nil ?_
      clear hR hF
      have hr5 := HOd.out.blk HR2.out (by simp)
      obtain ⟨r0, rl⟩ := hr5.facts1
      have fr := hr5.frozen 0
      have HR5 := Lib.hid hr5
      have HD5 := Lib.hid ((HOd.out.block D' (Array.getElem?_eq_some_iff.1 HD2.out).1 (by simp)).trans HD2.out)
      have HO5 := Lib.hid (HO2.out.trans HOd.out (by simp))
      clear hr5
      go_wp2_with (fail)
      have hr2 := HR5.out.set_ 0 (.bool true)
      have hO2 := HO5.out.setCell (p := ⟨rb, 0, none⟩) (.inr (by have := HWB.out; simp; omega)) (.bool true)
      have hK3 := ((only_setCell wd ⟨rb, 0, none⟩ (.bool true)).block D' (Array.getElem?_eq_some_iff.1 HD5.out).1 (by simp; omega)).trans HD5.out
      refine ⟨by simp, .inl ⟨_, _, rfl, run_takeDeferred hK3, ?_⟩⟩
      have hk := KeepC.putObj (B := D') (o' := .deferred none) hK3 rfl (Nat.le_refl _)
      obtain ⟨x0, _⟩ := (hk.blk hr2).facts1
      exact ⟨.bool true, by simp [results, Try.results6, go_sem, x0], rfl, hO2.keepC hk (by have := HO9.out.size; omega)⟩
theorem bagats_any {A : Option Addr} {cap : Nat} {L : List Int} {w : World} (hL : RowC w A (flat1 L)) (x : Int) (h1 : L.length ≤ 9223372036854775807) :
    Calls Try.prog 6 #[.slice A L.length cap, .int .i64 x] w fun e w' => e = .returned (.bool true) ∧ Only [] w w' := by
  by_cases hl : 200 < L.length
  · exact ats_many hl h1
  · exact ats_few hL (by omega)
end Go.Proofs.Ytpedlapemgjgaaa
