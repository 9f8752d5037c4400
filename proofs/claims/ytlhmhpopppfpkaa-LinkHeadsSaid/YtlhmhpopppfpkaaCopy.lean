/- Copy. -/
import Derived.Test.YtlhmhpopppfpkaaLen
namespace Go.Proofs.Ytlhmhpopppfpkaa
open Go.RowKit Go.Kx Go.Maps
set_option maxRecDepth 100000

theorem putL_out {Ls : List (Pr × Lane)} {p : Pr} {l : Lane} (h : keyB Ls p = false) : putL Ls p l = Ls ++ [(p, l)] := by unfold putL; rw [if_neg (by rw [h]; decide)]
theorem keyB_filter {t : List (Pr × Lane)} {p q : Pr} : keyB (t.filter fun e => !decide (e.1 = p)) q = (keyB t q && !decide (q = p)) := by
  rw [Bool.eq_iff_iff, keyB_iff]
  simp only [List.mem_filter, Bool.and_eq_true, keyB_iff]
  constructor
  · rintro ⟨l, h1, h2⟩
    exact ⟨⟨l, h1⟩, h2⟩
  · rintro ⟨⟨l, h1⟩, h2⟩
    exact ⟨l, h1, h2⟩
theorem len_strike : ∀ {todo : List (Pr × Lane)} {p : Pr} {l : Lane}, (todo.map (·.1)).Nodup → (p, l) ∈ todo → todo.length = 1 + (todo.filter fun e => !decide (e.1 = p)).length
  | [], _, _, _, h => by simp at h
  | e :: t, p, l, hn, h => by
    simp only [List.map_cons, List.nodup_cons] at hn
    rcases List.mem_cons.1 h with h | h
    · subst h
      rw [List.filter_cons_of_neg (by simp)]
      rw [List.filter_eq_self.2 fun f hf => by
        simp
        exact fun k => hn.1 (List.mem_map.2 ⟨f, hf, k⟩)]
      simp; omega
    · have hp : e.1 ≠ p := fun k => hn.1 (List.mem_map.2 ⟨_, h, k.symm⟩)
      rw [List.filter_cons_of_pos (by simp [hp])]
      have := len_strike hn.2 h
      simp; omega
/-- what is copied so far -/
structure CP (Ls Cs todo : List (Pr × Lane)) : Prop where
  at_ : ∀ q, keyB todo q = false → laneX Cs q = laneX Ls q
  out : ∀ q, keyB todo q = true → keyB Cs q = false
  tot : total Cs + total todo = total Ls
  len : Cs.length + todo.length = Ls.length
theorem CP.start (Ls : List (Pr × Lane)) : CP Ls [] Ls := by
  refine ⟨fun q h => ?_, fun q _ => rfl, by simp [total], by simp⟩
  rw [laneX_out h]; rfl
theorem CP.step {Ls Cs todo : List (Pr × Lane)} (h : CP Ls Cs todo) (hL : (Ls.map (·.1)).Nodup) (hC : (Cs.map (·.1)).Nodup) (ht : (todo.map (·.1)).Nodup) {p : Pr} {l l' : Lane} (hp : (p, l) ∈ todo) (hpL : (p, l) ∈ Ls) (hx : l'.xs = l.xs) :
    CP Ls (putL Cs p l') (todo.filter fun e => !decide (e.1 = p)) := by
  have hk : keyB todo p = true := keyB_iff.2 ⟨l, hp⟩
  have ho := h.out p hk
  have hst := total_strike ht hp
  have hln := len_strike ht hp
  have h1 := h.tot
  have h2 := h.len
  refine ⟨fun q hq => ?_, fun q hq => ?_, ?_, ?_⟩
  · by_cases hqp : q = p
    · subst hqp
      rw [laneX_in (putL_nd hC _ _) (putL_in _ _ _), laneX_in hL hpL, hx]
    · rw [keyB_filter] at hq
      rw [laneX_of (fun e he => putL_other (by rw [he]; exact hqp)) hC (putL_nd hC p l')]
      exact h.at_ q (by simpa [hqp] using hq)
  · rw [keyB_filter] at hq
    simp at hq
    have := h.out q hq.1
    cases hz : keyB (putL Cs p l') q with
    | false => rfl
    | true =>
      obtain ⟨z, hz⟩ := keyB_iff.1 hz
      rw [keyB_iff.2 ⟨z, (putL_other (p := p) (l := l') (e := (q, z)) hq.2).1 hz⟩] at this
      cases this
  · rw [putL_out ho]
    have : total (Cs ++ [(p, l')]) = total Cs + l.xs.length := by unfold total; simp [hx]
    omega
  · rw [putL_out ho, List.length_append]
    simp; omega
def MkM (c : Nat) (v : Value) (w : World) : Prop := ∃ b, v = .map (some b) ∧ w.ownsMap Try.prog 50 RH b 0 (.map []) ∧ c ≤ b
theorem MkM.only {c : Nat} {v : Value} {w w' : World} (h : MkM c v w) (o : Only [] w w') : MkM c v w' := by
  obtain ⟨b, e, q, h1⟩ := h
  exact ⟨b, e, ownsMap_of q (o.block b q.lt (by simp)), h1⟩
def MkA (c n room : Nat) (v : Value) (w : World) : Prop := ∃ b, v = .agg #[.int .i64 n, .int .i64 room, .map (some b)] ∧ w.ownsMap Try.prog 50 RH b 0 (.map []) ∧ c ≤ b
theorem MkA.only {c n room : Nat} {v : Value} {w w' : World} (h : MkA c n room v w) (o : Only [] w w') : MkA c n room v w' := by
  obtain ⟨b, e, q, h1⟩ := h
  exact ⟨b, e, ownsMap_of q (o.block b q.lt (by simp)), h1⟩
def MkP (c n room : Nat) (v : Value) (w : World) : Prop := ∃ g b, v = .pointer (some ⟨g, 0, none⟩) ∧ Blk w g 58 #[.int .i64 n, .int .i64 room, .map (some b)] ∧ w.ownsMap Try.prog 50 RH b 0 (.map []) ∧ c ≤ g ∧ c ≤ b
theorem MkP.only {c n room : Nat} {v : Value} {w w' : World} (h : MkP c n room v w) (o : Only [] w w') : MkP c n room v w' := by
  obtain ⟨g, b, e, hb, q, h1⟩ := h
  exact ⟨g, b, e, o.blk hb (by simp), ownsMap_of q (o.block b q.lt (by simp)), h1⟩
def CpP (c N : Nat) (xs : List Int) (v : Value) (w : World) : Prop := ∃ b' rb', v = .pointer (some ⟨b', 0, none⟩) ∧ Qu w b' rb' N xs ∧ c ≤ b' ∧ c ≤ rb' ∧ rb' < w.heap.size
theorem CpP.only {c N : Nat} {xs : List Int} {v : Value} {w w' : World} (h : CpP c N xs v w) (o : Only [] w w') : CpP c N xs v w' := by
  obtain ⟨b', rb', e, q, h1, h2, h3⟩ := h
  exact ⟨b', rb', e, q.only o (by simp) (by simp), h1, h2, Nat.lt_of_lt_of_le h3 o.size⟩
set_option maxHeartbeats 2000000 in
theorem copy_net {B : Nat} {w : World} {g bm n room : Nat} {Ls : List (Pr × Lane)} (h : NB B w g bm n room Ls) (hlen : Ls.length ≤ 1048576) :
    Calls Try.prog 15 #[.pointer (some ⟨g, 0, none⟩)] w fun e w' => ∃ cg cm Cs, e = .returned (.pointer (some ⟨cg, 0, none⟩)) ∧ NB w.heap.size w' cg cm n room Cs ∧ CP Ls Cs [] ∧ Only [] w w' := by
  obtain ⟨g0, g1, g2, gl⟩ := h.blk.facts3
  obtain ⟨D, hD, hL⟩ := h.map
  have ml := h.mlt
  have hdim := h.dims
  have hmm := @run_makeMap Try.prog
  have HN := Lib.hid h
  have HD := Lib.hid hD
  have HL := Lib.hid hL
  clear h hD hL
  go_enter Try.func15, Try.ntmps15
  go_wp2_with (fail)
  refine wp_region_facts 11 [] (fr := ?fra) (tl := ?tla) (fun i v wv => match i with
    | 0 => v = .pointer (some ⟨g, 0, none⟩)
    | 1 => v = .pointer (some ⟨g, 0, none⟩)
    | 2 => v = .pointer (some ⟨g, 0, none⟩)
    | 3 => v = .int .i64 n
    | 4 => v = .pointer (some ⟨g, 0, none⟩)
    | 5 => v = .pointer (some ⟨g, 0, none⟩)
    | 6 => v = .pointer (some ⟨g, 1, none⟩)
    | 7 => v = .int .i64 room
    | 8 => MkM w.heap.size v wv
    | 9 => MkA w.heap.size n room v wv
    | 10 => MkP w.heap.size n room v wv
    | _ => True) (by kernel_rfl) (by kernel_rfl) (by kernel_rfl) (by kernel_rfl) (by decide) ?htla ?hfra ?staba ?stepsa ?donea
  case htla => simp only [List.drop_succ_cons, List.drop_zero]; rfl
  case hfra => intro vals; simp only [putAll, dstAt, Act.put, List.getElem?_toArray, List.getElem?_cons_zero, List.getElem?_cons_succ, Option.bind_some, List.setIfInBounds_toArray, List.set_cons_zero, List.set_cons_succ]; rfl
  case staba =>
    intro i v wa wb h
    try dsimp only
    split <;> first | exact id | (exact fun hf => hf.only h)
  case stepsa =>
    refine ⟨?_, ?_, ?_, ?_, ?_, ?_, ?_, ?_, ?_, ?_, ?_, trivial⟩
    · intro vals wr hR hp K hK
      dsimp only at hK ⊢
      clear hp
      unfold RunsOp
      go_simp
      exact hK.out _ _ ⟨_, rfl, Only.refl _ _, rfl⟩
    · intro vals wr hR hp K hK
      dsimp only at hK ⊢
      obtain ⟨p0, -⟩ := hp
      replace p0 := p0 rfl
      dsimp only at p0
      rw [p0] at hK ⊢
      clear p0
      unfold RunsOp
      go_simp
      exact hK.out _ _ ⟨_, rfl, Only.refl _ _, rfl⟩
    · intro vals wr hR hp K hK
      dsimp only at hK ⊢
      obtain ⟨p1, -⟩ := hp
      replace p1 := p1 rfl
      dsimp only at p1
      rw [p1] at hK ⊢
      clear p1
      unfold RunsOp
      go_simp
      exact hK.out _ _ ⟨_, rfl, Only.refl _ _, rfl⟩
    · intro vals wr hR hp K hK
      dsimp only at hK ⊢
      obtain ⟨p2, -⟩ := hp
      replace p2 := p2 rfl
      dsimp only at p2
      rw [p2] at hK ⊢
      clear p2
      unfold RunsOp
      have tg := hR.blk (Blk.drew HN.out.blk) (by simp)
      obtain ⟨k0, k1, k2, kl'⟩ := tg.facts3
      clear tg
      go_simp
      exact hK.out _ _ ⟨_, rfl, Only.refl _ _, rfl⟩
    · intro vals wr hR hp K hK
      dsimp only at hK ⊢
      clear hp
      unfold RunsOp
      go_simp
      exact hK.out _ _ ⟨_, rfl, Only.refl _ _, rfl⟩
    · intro vals wr hR hp K hK
      dsimp only at hK ⊢
      obtain ⟨p4, -⟩ := hp
      replace p4 := p4 rfl
      dsimp only at p4
      rw [p4] at hK ⊢
      clear p4
      unfold RunsOp
      go_simp
      exact hK.out _ _ ⟨_, rfl, Only.refl _ _, rfl⟩
    · intro vals wr hR hp K hK
      dsimp only at hK ⊢
      obtain ⟨p5, -⟩ := hp
      replace p5 := p5 rfl
      dsimp only at p5
      rw [p5] at hK ⊢
      clear p5
      unfold RunsOp
      go_simp
      exact hK.out _ _ ⟨_, rfl, Only.refl _ _, rfl⟩
    · intro vals wr hR hp K hK
      dsimp only at hK ⊢
      obtain ⟨p6, -⟩ := hp
      replace p6 := p6 rfl
      dsimp only at p6
      rw [p6] at hK ⊢
      clear p6
      unfold RunsOp
      have tg := hR.blk (Blk.drew HN.out.blk) (by simp)
      obtain ⟨k0, k1, k2, kl'⟩ := tg.facts3
      clear tg
      go_simp
      exact hK.out _ _ ⟨_, rfl, Only.refl _ _, rfl⟩
    · intro vals wr hR hp K hK
      dsimp only at hK ⊢
      clear hp
      unfold RunsOp
      have hsz := hR.size
      go_simp
      exact hK.out _ _ ⟨_, rfl, (Only.refl _ _).alloc _, _, rfl, World.ownsMap_made _ _ _ _, hsz⟩
    · intro vals wr hR hp K hK
      dsimp only at hK ⊢
      obtain ⟨p3, p7, p8, -⟩ := hp
      replace p3 := p3 rfl
      replace p7 := p7 rfl
      replace p8 := p8 rfl
      dsimp only at p3 p7 p8
      obtain ⟨b8, e8, q8, i8⟩ := p8
      rw [p3, p7, e8] at hK ⊢
      clear p3 p7 e8
      unfold RunsOp
      go_simp
      exact hK.out _ _ ⟨_, rfl, Only.refl _ _, b8, rfl, q8, i8⟩
    · intro vals wr hR hp K hK
      dsimp only at hK ⊢
      obtain ⟨p9, -⟩ := hp
      replace p9 := p9 rfl
      dsimp only at p9
      obtain ⟨b9, e9, q9, i9⟩ := p9
      rw [e9] at hK ⊢
      clear e9
      unfold RunsOp
      have hsz := hR.size
      go_simp
      exact hK.out _ _ ⟨_, rfl, (Only.refl _ _).alloc _, _, b9, rfl, Blk.new _ _ _, q9.alloc _, hsz, i9⟩
  case donea =>
    intro vals wd hR hF
    have f3 : vals 3 = .int .i64 n := hF 3 (by decide)
    have f7 : vals 7 = .int .i64 room := hF 7 (by decide)
    have f10 : MkP w.heap.size n room (vals 10) wd := hF 10 (by decide)
    rw [f3, f7]
    obtain ⟨cg, cm, e10, hb10, hm10, hc1, hc2⟩ := f10
    have o2 : Only [] w wd := ((Only.refl [] w).drew).trans hR (by simp)
    clear hF f3 f7 hR
    have hNC : NB w.heap.size wd cg cm n room [] := ⟨hb10, ⟨_, hm10, LD.nil⟩, fun e he => by simp at he, fun e he => by simp at he, List.Pairwise.nil, hdim, hc1, hc2⟩
    rw [e10]
    clear e10
    have HNC := Lib.hid hNC
    have HN2 := Lib.hid (HN.out.keep o2)
    have HO2 := Lib.hid o2
    clear hNC hb10 hm10 o2 g0 g1 g2 gl
    obtain ⟨g0, g1, g2, gl⟩ := HN2.out.blk.facts3
    obtain ⟨D2, hD2, hL2⟩ := HN2.out.map
    have HD2 := Lib.hid hD2
    have HL2 := Lib.hid hL2
    clear hD2 hL2
    go_wp2_with (first
      | (at_range; refine wpList_range_due _ rfl _ rfl bm _ D2 Ls rfl HD2.out HL2.out ?_; intro w0 hd0 o0 hs0)
      | go_in)
    go_frame
    have hsw := HO2.out.size
    go_loopw [4] (fun _ wr => ∃ todo Cs, Due wr bm wd.heap.size Ls todo ∧ NB w.heap.size wr cg cm n room Cs ∧ CP Ls Cs todo ∧ Only [] w wr ∧ (∀ x ∈ cg :: netS cm Cs, x ≠ wd.heap.size)) (fun _ wr => wr.rangeLeft bm wd.heap.size)
    case atStart => exact ⟨Ls, [], hd0, HNC.out.keep o0, CP.start Ls, HO2.out.trans o0 (by simp), fun x hx => by have := HNC.out.mlt; have := HNC.out.blk.lt; simp at hx; rcases hx with rfl | rfl <;> omega⟩
    case round =>
      clear hd0 o0 hs0
      obtain ⟨todo, Cs, hd, hNC, hCP, hO, hcr⟩ := hrel
      have HO := Lib.hid hO
      have HCR := Lib.hid hcr
      have HDu := Lib.hid hd
      have HC0 := Lib.hid hNC
      have HCP := Lib.hid hCP
      clear hO hd hNC hCP hcr HNC HD2
      go_wp2_with (first
        | (at_next; refine wpList_next_due _ rfl _ rfl bm wd.heap.size Ls todo rfl HDu.out ?_ ?_)
        | go_in)
      · intro h0
        subst h0
        go_wp2_with (fail)
        go_ret
        exact ⟨cg, cm, Cs, rfl, HC0.out, HCP.out, HO.out⟩
      · intro pa pb l w1 hpl hd1 hms o1 hs1 hen
        have HM := Lib.hid hms
        have HP0 := Lib.hid hpl
        have HD1 := Lib.hid hd1
        have HO1 := Lib.hid o1
        have HS1 := Lib.hid hs1
        clear hms hpl hd1 o1 hs1
        go_wp2_with (fail)
        have hmem := Due.sub HDu.out _ HP0.out
        have hr := Due.lt HDu.out
        have hs1 := HS1.out
        have ow1 : Only [] w w1 := HO.out.trans HO1.out (fun x hx => by simp at hx; subst hx; exact .inr hsw)
        have hp4 : Blk ((w1.alloc (.cells #[.int .i64 pa, .int .i64 pb] 50)).alloc (.cells #[.pointer (some ⟨l.b, 0, none⟩), .int .i64 l.size] 61)) w1.heap.size 50 #[.int .i64 pa, .int .i64 pb] := (Blk.new w1 50 _).alloc _
        have hx4 : Blk ((w1.alloc (.cells #[.int .i64 pa, .int .i64 pb] 50)).alloc (.cells #[.pointer (some ⟨l.b, 0, none⟩), .int .i64 l.size] 61)) (w1.heap.size + 1) 61 #[.pointer (some ⟨l.b, 0, none⟩), .int .i64 l.size] := by have h := Blk.new (w1.alloc (.cells #[.int .i64 pa, .int .i64 pb] 50)) 61 #[.pointer (some ⟨l.b, 0, none⟩), .int .i64 l.size]; simpa using h
        have o14 : Only [] w1 ((w1.alloc (.cells #[.int .i64 pa, .int .i64 pb] 50)).alloc (.cells #[.pointer (some ⟨l.b, 0, none⟩), .int .i64 l.size] 61)) := ((Only.refl [] w1).alloc _).alloc _
        have hsz4 : ((w1.alloc (.cells #[.int .i64 pa, .int .i64 pb] 50)).alloc (.cells #[.pointer (some ⟨l.b, 0, none⟩), .int .i64 l.size] 61)).heap.size = w1.heap.size + 2 := by simp
        generalize (w1.alloc (.cells #[.int .i64 pa, .int .i64 pb] 50)).alloc (.cells #[.pointer (some ⟨l.b, 0, none⟩), .int .i64 l.size] 61) = w4 at hp4 hx4 o14 hsz4 ⊢
        obtain ⟨pk, hpk⟩ : ∃ pk, w1.heap.size = pk := ⟨_, rfl⟩
        rw [hpk] at hp4 hx4 hsz4 hs1 ⊢
        have HP := Lib.hid hp4
        have HX := Lib.hid hx4
        have HPK := Lib.hid hpk
        have H14 := Lib.hid o14
        have HC := Lib.hid ((HC0.out.only HO1.out (fun x hx => by simp; exact HCR.out x hx)).keep o14)
        have HQ := Lib.hid ((HN.out.keep (ow1.trans o14 (by simp))).qu _ hmem).1
        have HDn := Lib.hid (HD1.out.kept o14 (by simp) (by simp))
        have HOn := Lib.hid (ow1.trans o14 (by simp))
        obtain ⟨D3, hD3, hL3⟩ := HC.out.map
        have HD3 := Lib.hid hD3
        have HL3 := Lib.hid hL3
        have HS4 := Lib.hid hsz4
        have HSr := Lib.hid hs1
        clear hp4 hx4 o14 hD3 hL3 ow1 g0 g1 g2 gl hpk hsz4 hs1
        refine wp_region_facts 11 [] (fr := ?frb) (tl := ?tlb) (fun i v wv => match i with
          | 0 => v = .pointer (some ⟨cg, 0, none⟩)
          | 1 => v = .pointer (some ⟨cg, 0, none⟩)
          | 2 => v = .pointer (some ⟨cg, 2, none⟩)
          | 3 => v = .map (some cm)
          | 4 => v = .agg #[.int .i64 pa, .int .i64 pb]
          | 5 => v = .pointer (some ⟨pk + 1, 0, none⟩)
          | 6 => v = .pointer (some ⟨l.b, 0, none⟩)
          | 7 => CpP w4.heap.size l.size l.xs v wv
          | 8 => v = .pointer (some ⟨pk + 1, 1, none⟩)
          | 9 => v = .int .i64 l.size
          | 10 => GrL w4.heap.size l.size l.xs v wv
          | _ => True) (by kernel_rfl) (by kernel_rfl) (by kernel_rfl) (by kernel_rfl) (by decide) ?htlb ?hfrb ?stabb ?stepsb ?doneb
        case htlb => simp only [List.drop_succ_cons, List.drop_zero]; rfl
        case hfrb => intro vals; simp only [putAll, dstAt, Act.put, List.getElem?_toArray, List.getElem?_cons_zero, List.getElem?_cons_succ, Option.bind_some, List.setIfInBounds_toArray, List.set_cons_zero, List.set_cons_succ]; rfl
        case stabb =>
          intro i v wa wb h
          try dsimp only
          split <;> first | exact id | (exact fun hf => hf.only h)
        case stepsb =>
          refine ⟨?_, ?_, ?_, ?_, ?_, ?_, ?_, ?_, ?_, ?_, ?_, trivial⟩
          · intro vals wr hR hp K hK
            dsimp only at hK ⊢
            clear hp
            unfold RunsOp
            go_simp
            exact hK.out _ _ ⟨_, rfl, Only.refl _ _, rfl⟩
          · intro vals wr hR hp K hK
            dsimp only at hK ⊢
            obtain ⟨p0, -⟩ := hp
            replace p0 := p0 rfl
            dsimp only at p0
            rw [p0] at hK ⊢
            clear p0
            unfold RunsOp
            go_simp
            exact hK.out _ _ ⟨_, rfl, Only.refl _ _, rfl⟩
          · intro vals wr hR hp K hK
            dsimp only at hK ⊢
            obtain ⟨p1, -⟩ := hp
            replace p1 := p1 rfl
            dsimp only at p1
            rw [p1] at hK ⊢
            clear p1
            unfold RunsOp
            go_simp
            exact hK.out _ _ ⟨_, rfl, Only.refl _ _, rfl⟩
          · intro vals wr hR hp K hK
            dsimp only at hK ⊢
            obtain ⟨p2, -⟩ := hp
            replace p2 := p2 rfl
            dsimp only at p2
            rw [p2] at hK ⊢
            clear p2
            unfold RunsOp
            have tg := hR.blk (Blk.drew HC.out.blk) (by simp)
            obtain ⟨k0, k1, k2, kl'⟩ := tg.facts3
            clear tg
            go_simp
            exact hK.out _ _ ⟨_, rfl, Only.refl _ _, rfl⟩
          · intro vals wr hR hp K hK
            dsimp only at hK ⊢
            clear hp
            unfold RunsOp
            have tg := hR.blk (Blk.drew HP.out) (by simp)
            obtain ⟨k0, k1, kl'⟩ := tg.facts2
            clear tg
            go_simp
            exact hK.out _ _ ⟨_, rfl, Only.refl _ _, rfl⟩
          · intro vals wr hR hp K hK
            dsimp only at hK ⊢
            clear hp
            unfold RunsOp
            go_simp
            exact hK.out _ _ ⟨_, rfl, Only.refl _ _, rfl⟩
          · intro vals wr hR hp K hK
            dsimp only at hK ⊢
            obtain ⟨p5, -⟩ := hp
            replace p5 := p5 rfl
            dsimp only at p5
            rw [p5] at hK ⊢
            clear p5
            unfold RunsOp
            have tg := hR.blk (Blk.drew HX.out) (by simp)
            obtain ⟨k0, k1, kl'⟩ := tg.facts2
            clear tg
            go_simp
            exact hK.out _ _ ⟨_, rfl, Only.refl _ _, rfl⟩
          · intro vals wr hR hp K hK
            dsimp only at hK ⊢
            obtain ⟨p6, -⟩ := hp
            replace p6 := p6 rfl
            dsimp only at p6
            rw [p6] at hK ⊢
            clear p6
            unfold RunsOp
            have hsz := hR.size
            have q0 := ((HQ.out.only ((Only.refl [] w4).drew) (by simp) (by simp)).only hR (by simp) (by simp))
            go_simp
            refine (copy_any q0).mono ?_
            rintro e w2 ⟨b', rb', rfl, hb1, hb2, hb3, q6, o2⟩
            exact hK.out _ _ ⟨_, rfl, o2, b', rb', rfl, q6, by simp at hsz; omega, by simp at hsz; omega, hb3⟩
          · intro vals wr hR hp K hK
            dsimp only at hK ⊢
            clear hp
            unfold RunsOp
            go_simp
            exact hK.out _ _ ⟨_, rfl, Only.refl _ _, rfl⟩
          · intro vals wr hR hp K hK
            dsimp only at hK ⊢
            obtain ⟨p8, -⟩ := hp
            replace p8 := p8 rfl
            dsimp only at p8
            rw [p8] at hK ⊢
            clear p8
            unfold RunsOp
            have tg := hR.blk (Blk.drew HX.out) (by simp)
            obtain ⟨k0, k1, kl'⟩ := tg.facts2
            clear tg
            go_simp
            exact hK.out _ _ ⟨_, rfl, Only.refl _ _, rfl⟩
          · intro vals wr hR hp K hK
            dsimp only at hK ⊢
            obtain ⟨p7, p9, -⟩ := hp
            replace p7 := p7 rfl
            replace p9 := p9 rfl
            dsimp only at p7 p9
            obtain ⟨b7, rb7, e7, q7, i7, j7, k7⟩ := p7
            rw [e7, p9] at hK ⊢
            clear e7 p9
            unfold RunsOp
            go_simp
            exact hK.out _ _ ⟨_, rfl, Only.refl _ _, b7, rb7, rfl, q7, i7, j7, k7⟩
        case doneb =>
          intro vals we hR hF
          have f3 : vals 3 = .map (some cm) := hF 3 (by decide)
          have f4 : vals 4 = .agg #[.int .i64 pa, .int .i64 pb] := hF 4 (by decide)
          have f10 : GrL w4.heap.size l.size l.xs (vals 10) we := hF 10 (by decide)
          rw [f3, f4]
          obtain ⟨b', rb', e10, q6, hb1, hb2, hb3⟩ := f10
          rw [e10]
          have o5 : Only [] w4 we := ((Only.refl [] w4).drew).trans hR (by simp)
          clear hF e10 hR f3 f4
          have hCe := HC.out.keep o5
          have hown := ownsMap_of HD3.out (o5.block cm HD3.out.lt (by simp))
          have hok := HL2.out.ok _ hmem
          have hqu := (HN.out.qu _ hmem).2
          have hlc := HCP.out.len
          have hszp := HS4.out
          have hszr := HSr.out
          have hcml := HC.out.mlt
          have hcgl := HC.out.blk.lt
          have hbas := HC.out.base
          have hcgm := HC.out.gm
          have HCe := Lib.hid hCe
          have HQ6 := Lib.hid q6
          have HO5 := Lib.hid o5
          have HOW := Lib.hid hown
          have HZ := Lib.hid hszr
          clear hCe q6 o5 hown hszr HC0
          obtain ⟨k0, k1, k2, kl'⟩ := HCe.out.blk.facts3
          go_wp2_with (at_mapUpdate; refine wpList_mapUpdate_own _ rfl _ _ _ 56 rfl 50 61 law50 Try.underlying56 RH cm Cs.length D3 rfl HOW.out (by unfold maxLen; omega) _ _ (kl pa pb) rfl rfl (key_of hok.1 hok.2) (.held (lv b' l.size)) [] rfl ?_; intro w8 hown8 hgrow8; have HOW8 := Lib.hid hown8; have HO8 := Lib.hid (grown_only hgrow8); clear hown8 hgrow8; go_frame)
          have hszr := HZ.out
          have o8 : Only [cm] we w8 := HO8.out
          have hold : ∀ e ∈ Cs, ∀ x ∈ e.2.bs, x < w4.heap.size := fun e he x hx => (HC.out.lo e he x hx).2.1
          have hq6l := HQ6.out.lt
          have hP := HCe.out.put (c := w4.heap.size) (l := ⟨b', rb', l.size, l.xs⟩) (Nat.le_trans HO2.out.size (by omega)) hcgl hcml hold hok.1 hok.2 ⟨hb1, hq6l⟩ ⟨hb2, hb3⟩ hqu HQ6.out o8 HL3.out HOW8.out
          have hne : wd.heap.size ≠ cm := fun e => HCR.out cm (by simp) e.symm
          have hbc : bm ≠ cm := by omega
          have hst := HCP.out.step HN.out.nd HC.out.nd (Due.nd HDu.out) HP0.out hmem (l' := ⟨b', rb', l.size, l.xs⟩) rfl
          have hDf := (HDn.out.kept HO5.out (by simp) (by simp)).kept o8 (by simpa using hbc) (by simpa using hne)
          have hOf := (HOn.out.trans HO5.out (by simp)).trans o8 (fun x hx => by simp at hx; subst hx; exact .inr hbas.2)
          have hLf : w8.rangeLeft bm wd.heap.size = w1.rangeLeft bm wd.heap.size := by
            have hbm1 : bm < w1.heap.size := by rw [HPK.out]; omega
            have hr1 : wd.heap.size < w1.heap.size := by rw [HPK.out]; omega
            have o18 : Only [] w1 we := H14.out.trans HO5.out (by simp)
            have := o18.size
            unfold World.rangeLeft
            rw [o8.block bm (by omega) (by simpa using hbc), o8.block wd.heap.size (by omega) (by simpa using hne), o18.block bm hbm1 (by simp), o18.block wd.heap.size hr1 (by simp)]
          have hCn : ∀ x ∈ cg :: netS cm (putL Cs (pa, pb) ⟨b', rb', l.size, l.xs⟩), x ≠ wd.heap.size := fun x hx => by
            rcases List.mem_cons.1 hx with rfl | hx
            · exact HCR.out _ (by simp)
            · rcases List.mem_cons.1 hx with rfl | hx
              · exact HCR.out _ (by simp)
              · obtain ⟨e, he, hx⟩ := List.mem_flatMap.1 hx
                rcases putL_mem he with rfl | ⟨h1, _⟩
                · simp at hx
                  rcases hx with rfl | rfl <;> omega
                · exact HCR.out _ (List.mem_cons_of_mem _ (List.mem_cons_of_mem _ (List.mem_flatMap.2 ⟨e, h1, hx⟩)))
          have HPP := Lib.hid hP
          have HST := Lib.hid hst
          have HDF := Lib.hid hDf
          have HOF := Lib.hid hOf
          have HLF := Lib.hid hLf
          have HCN := Lib.hid hCn
          clear hP hst hDf hOf hLf hCn o8 hold hszr
          go_wp2_with (fail)
          go_roundw
          case rel => exact ⟨_, _, HDF.out, HPP.out, HST.out, HOF.out, HCN.out⟩
          case measure => rw [HLF.out]; exact HM.out
end Go.Proofs.Ytlhmhpopppfpkaa
