/- TokenAll. -/
import Derived.Test.YtghofiehkdhbeaaDoorAwake
namespace Go.Proofs.YtghofiehkdhbeaaDoor
open Go.RowKit Go.Kx Go.Tok
attribute [local go_sem] Oper.semAt_some
set_option maxRecDepth 100000

theorem outs_ok {s : ByteArray} {ws : List Word} {er : Option (Nat × Nat)} (h : scanR s = (ws, er)) {k : Nat} {v : Array Value} (hv : (outs s)[k]? = some v) : (∃ x, ws[k]? = some x ∧ v = okT x) ∨ (k = ws.length ∧ ∃ p e, er = some (p, e) ∧ v = badT p e ∧ e ≠ 0) := by
  rw [outs_eq, h] at hv
  unfold vsOf at hv
  by_cases hk : k < ws.length
  · left
    rw [List.getElem?_append_left (by simpa using hk), List.getElem?_map] at hv
    rw [List.getElem?_eq_getElem hk] at hv ⊢
    exact ⟨_, rfl, (Option.some.inj hv).symm⟩
  · right
    rw [List.getElem?_append_right (by simp; omega)] at hv
    cases er with
    | none => simp at hv
    | some pe =>
      simp only at hv
      have h1 := (List.getElem?_eq_some_iff.1 hv).1
      simp at h1
      refine ⟨by omega, pe.1, pe.2, rfl, ?_, scanR_err h⟩
      have := List.mem_of_getElem? hv
      simpa using this
theorem outs_len {s : ByteArray} {ws : List Word} {er : Option (Nat × Nat)} (h : scanR s = (ws, er)) : (outs s).length = ws.length + (if er.isSome then 1 else 0) := by
  rw [outs_eq, h]
  unfold vsOf
  cases er <;> simp
theorem eqT {p : Nat} (W : World) : (binOp .eql 28 (.agg #[.int .i64 0, .string ⟨#[]⟩, .int .i64 0, .int .i64 p]) (.agg #[.int .i64 0, .string ⟨#[]⟩, .int .i64 0, .int .i64 p])).run Tryd.prog W = .ok (.bool true) W := by
  have := eqW 0 0 0 0 p p [] [] W
  rw [this]
  simp
theorem neqT (x : Word) (W : World) : (binOp .neq 28 (.agg #[.int .i64 x.t.kind, .string ⟨x.t.s.toArray⟩, .int .i64 x.t.n, .int .i64 x.at_]) (.agg #[.int .i64 x.t.kind, .string ⟨x.t.s.toArray⟩, .int .i64 x.t.n, .int .i64 x.at_])).run Tryd.prog W = .ok (.bool false) W := by
  simp [go_sem]
/-- the words that Scan told, and the error -/
structure Told (s : ByteArray) (ws : List Word) (er : Option (Nat × Nat)) (A : Option Addr) (n : Nat) (p e : Nat) (B : Nat) (w : World) : Prop where
  row : er = none → n = ws.length ∧ RowW w A ws ∧ p = 0 ∧ e = 0
  bad : ∀ q f, er = some (q, f) → A = none ∧ n = 0 ∧ p = q ∧ e = f
  own : ∀ q, A = some q → B ≤ q.block ∧ q.block < w.heap.size
theorem scan_told {s : ByteArray} {ws : List Word} {er : Option (Nat × Nat)} (hs : s.size ≤ 100000000) (hsc : scanR s = (ws, er)) {w : World} (hT : Tabs w) :
    Calls Tryd.prog 8 #[.string s] w fun r w' => (∃ A c n p e, r = .returned (.tuple #[.slice A n c, .int .i64 (p : Nat), .int .i64 (e : Nat)]) ∧ Told s ws er A n p e w.heap.size w') ∧ Only [] w w' := by
  refine (scan_any s hs hT).mono ?_
  rintro r w' ⟨o, hp⟩
  rw [hsc] at hp
  refine ⟨?_, o⟩
  cases er with
  | none =>
    obtain ⟨A, c, rfl, how⟩ := hp
    exact ⟨A, c, ws.length, 0, 0, rfl, ⟨fun _ => ⟨rfl, own_rowW rfl how, rfl, rfl⟩, fun q f h => (by cases h), fun q hq => by subst hq; exact how.lt q.block rfl⟩⟩
  | some pe =>
    obtain ⟨p, e⟩ := pe
    have hp2 : r = .returned (.tuple #[.slice none 0 0, .int .i64 p, .int .i64 e]) := hp
    exact ⟨none, 0, 0, p, e, hp2, ⟨fun h => (by cases h), fun q f h => (by cases h; exact ⟨rfl, rfl, rfl, rfl⟩), fun q hq => (by cases hq)⟩⟩
theorem Told.keep {s : ByteArray} {ws : List Word} {er : Option (Nat × Nat)} {A : Option Addr} {n p e B : Nat} {w w' : World} (h : Told s ws er A n p e B w) (o : Only [] w w') : Told s ws er A n p e B w' :=
  ⟨fun h1 => ⟨(h.row h1).1, (h.row h1).2.1.keep o, (h.row h1).2.2⟩, h.bad, fun q hq => ⟨(h.own q hq).1, Nat.lt_of_lt_of_le (h.own q hq).2 o.size⟩⟩
theorem Told.only {S : List Nat} {s : ByteArray} {ws : List Word} {er : Option (Nat × Nat)} {A : Option Addr} {n p e B : Nat} {w w' : World} (h : Told s ws er A n p e B w) (o : Only S w w') (hS : ∀ q, A = some q → q.block ∉ S) : Told s ws er A n p e B w' :=
  ⟨fun h1 => ⟨(h.row h1).1, (h.row h1).2.1.only o hS, (h.row h1).2.2⟩, h.bad, fun q hq => ⟨(h.own q hq).1, Nat.lt_of_lt_of_le (h.own q hq).2 o.size⟩⟩
set_option maxHeartbeats 4000000 in
theorem alls_any {w : World} {s : ByteArray} {z : Int} (hz0 : 0 ≤ z) (hz1 : z ≤ 255) (hT : Tabs w) : Calls Tryd.prog 5 #[.string s, .int .u8 z] w fun r w' => r = .returned (.bool true) ∧ Only [] w w' := by
  have bs : Blk ((w.alloc (.cells #[.int .u8 z] 5)).alloc (.cells #[.bool false] 4)) w.heap.size 5 #[.int .u8 z] := (Blk.new w 5 _).alloc _
  have br : Blk ((w.alloc (.cells #[.int .u8 z] 5)).alloc (.cells #[.bool false] 4)) (w.heap.size + 1) 4 #[.bool false] := by have h := Blk.new (w.alloc (.cells #[.int .u8 z] 5)) 4 #[.bool false]; simpa using h
  have oo : Only [] w ((w.alloc (.cells #[.int .u8 z] 5)).alloc (.cells #[.bool false] 4)) := ((Only.refl _ _).alloc _).alloc _
  obtain ⟨w2, hw2⟩ : ∃ w2, ((w.alloc (.cells #[.int .u8 z] 5)).alloc (.cells #[.bool false] 4)) = w2 := ⟨_, rfl⟩
  rw [hw2] at bs br oo
  have HT := Lib.hid hT
  have HBS := Lib.hid bs
  have HBR := Lib.hid br
  have HO2 := Lib.hid oo
  clear bs br oo hT
  refine calls_marks Tryd.func5 rfl ?_
  simp only [Tryd.ntmps5, List.size_toArray, List.length_cons, List.length_nil, Nat.reduceAdd, Nat.reduceSub, Array.replicate_succ, Array.replicate_zero, List.push_toArray, List.append_toArray, List.nil_append, List.cons_append]
  go_wp2_with (fail)
  clear hw2
  refine (awake_any (HT.out.keep HO2.out)).mono ?_
  rintro r w3 ⟨rfl, o3⟩
  have HO3 := Lib.hid (HO2.out.trans o3 (by simp))
  have S3 := Lib.hid (o3.blk HBS.out (by simp))
  have R3 := Lib.hid (o3.blk HBR.out (by simp))
  clear o3 HBS HBR HO2
  by_cases hbig : 30000 < s.size
  · have e1 : (30000 : Int) < (s.size : Int) := by omega
    go_wp2_with (fail)
    refine (awake_any (HT.out.keep HO3.out)).mono ?_
    rintro r w4 ⟨rfl, o4⟩
    have hr4 := o4.blk R3.out (by simp)
    have HO4 := Lib.hid (HO3.out.trans o4 (by simp))
    obtain ⟨r0, rl⟩ := hr4.facts1
    have fr := hr4.frozen 0
    have hr2 := hr4.set_ 0 (.bool true)
    obtain ⟨x0, _⟩ := Blk.facts1 (a := .bool true) hr2
    have X0 := Lib.hid x0
    clear o4 hr4 hr2 x0
    go_wp2_with (fail)
    exact ⟨.bool true, by simp [results, Tryd.results5, go_sem, X0.out], rfl, HO4.out.setCell (.inr (by simp)) _⟩
  · have e1 : decide ((30000 : Int) < (s.size : Int)) = false := by simp; omega
    obtain ⟨ws, er, hsc⟩ : ∃ ws er, scanR s = (ws, er) := ⟨_, _, rfl⟩
    have hcnt := scanR_count s
    rw [hsc] at hcnt
    have hwl : ws.length ≤ 100000 := by simp at hcnt; omega
    have HSC := Lib.hid hsc
    clear hsc hcnt
    go_wp2_with (fail)
    refine (scan_told (by omega) HSC.out (HT.out.keep HO3.out)).mono ?_
    rintro r w4 ⟨⟨A, c, n, p, e, rfl, ht⟩, o4⟩
    have HO4 := Lib.hid (HO3.out.trans o4 (by simp))
    have S4 := Lib.hid (o4.blk S3.out (by simp))
    have R4 := Lib.hid (o4.blk R3.out (by simp))
    have h3l := R3.out.lt
    have HTD := Lib.hid ht
    have h34 := o4.size
    clear o4 S3 R3 HO3 ht
    go_wp2_with (fail)
    obtain ⟨w8, hw8⟩ : ∃ w8, ((((w4.alloc (.cells #[.slice A n c] 23)).alloc (.cells #[.int .i64 p] 3)).alloc (.cells #[.int .i64 e] 24)).alloc (.cells #[.int .i64 0] 3)) = w8 := ⟨_, rfl⟩
    have q5 : Blk w8 w4.heap.size 23 #[.slice A n c] := by rw [← hw8]; exact (((Blk.new w4 23 _).alloc _).alloc _).alloc _
    have q6 : Blk w8 (w4.heap.size + 1) 3 #[.int .i64 p] := by
      rw [← hw8]
      have h := Blk.new (w4.alloc (.cells #[.slice A n c] 23)) 3 #[.int .i64 p]
      rw [World.size_alloc] at h
      exact (h.alloc _).alloc _
    have q7 : Blk w8 (w4.heap.size + 1 + 1) 24 #[.int .i64 e] := by
      rw [← hw8]
      have h := Blk.new ((w4.alloc (.cells #[.slice A n c] 23)).alloc (.cells #[.int .i64 p] 3)) 24 #[.int .i64 e]
      rw [World.size_alloc, World.size_alloc] at h
      exact h.alloc _
    have q8 : Blk w8 (w4.heap.size + 1 + 1 + 1) 3 #[.int .i64 0] := by
      rw [← hw8]
      have h := Blk.new (((w4.alloc (.cells #[.slice A n c] 23)).alloc (.cells #[.int .i64 p] 3)).alloc (.cells #[.int .i64 e] 24)) 3 #[.int .i64 0]
      rw [World.size_alloc, World.size_alloc, World.size_alloc] at h
      exact h
    have o8 : Only [] w4 w8 := by rw [← hw8]; exact ((((Only.refl _ _).alloc _).alloc _).alloc _).alloc _
    rw [hw8]
    clear hw8
    refine (all_any s w8).mono ?_
    rintro r w9 ⟨cb, rfl, hcb, hbx, o9⟩
    have o49 := o8.trans o9 (by simp)
    have Q5 := Lib.hid (o9.blk q5 (by simp))
    have Q6 := Lib.hid (o9.blk q6 (by simp))
    have Q7 := Lib.hid (o9.blk q7 (by simp))
    have Q8 := Lib.hid (o9.blk q8 (by simp))
    have S9 := Lib.hid (o49.blk S4.out (by simp))
    have R9 := Lib.hid (o49.blk R4.out (by simp))
    have HO9 := Lib.hid (HO4.out.trans o49 (by simp))
    have HTD9 := Lib.hid (HTD.out.keep o49)
    have HTL := Lib.hid (show ∀ q, A = some q → w3.heap.size ≤ q.block ∧ q.block < w4.heap.size from HTD.out.own)
    have HQ := Lib.hid (all_seqs (by omega) (HT.out.keep HO9.out) hbx)
    have h89 := o9.size
    have h8l := q8.lt
    have hbl := hbx.lt
    have hl3 : 3 < w.heap.size := by
      obtain ⟨tp, pp, tt, fr, h⟩ := HT.out.range
      exact (Array.getElem?_eq_some_iff.1 h).1
    obtain ⟨qb, hqb⟩ : ∃ qb, w4.heap.size = qb := ⟨_, rfl⟩
    obtain ⟨rb, hrb⟩ : ∃ rb, w.heap.size = rb := ⟨_, rfl⟩
    rw [hqb] at Q5 Q6 Q7 Q8 h8l h34 HTL
    rw [hrb] at S9 R9 h3l hl3
    have HWB := Lib.hid hrb
    have HQB := Lib.hid hqb
    clear q5 q6 q7 q8 o8 o9 o49 hbx HO4 S4 R4 HTD
    go_wp2_with (fail)
    clear hqb hrb
    refine' wp_rangeFunc_seqsP (gf := 17) (lb := #[.pointer (some ⟨cb, 0, none⟩)]) (N := (outs s).length) (R := fun k v _ => (outs s)[k]? = some v) (prot := [cb, 0, 3]) rfl (enters Tryd.func17 (by kernel_rfl) rfl)
      HQ.out (fun k v W hv => outs_size s v (List.mem_of_getElem? hv)) [rb + 1, qb + 1 + 1 + 1] (by simp; omega) (by simp; omega)
      (fun k S W => k ≤ ws.length ∧ Blk W (qb + 1 + 1 + 1) 3 #[.int .i64 k] ∧ Blk W (rb + 1) 4 #[.bool false] ∧ S = [rb + 1, qb + 1 + 1 + 1] ∧ Only [rb + 1, qb + 1 + 1 + 1] w9 W)
      (fun c W => c = .ret ∧ Blk W (rb + 1) 4 #[.bool true] ∧ Only [rb + 1, qb + 1 + 1 + 1] w9 W) ?hI ?hIx ?h0 ?round ?done ?stop
    case hI =>
      rintro k S W1 W2 ⟨h0, h1, h2, rfl, h4⟩ hk
      exact ⟨h0, hk.blk h1, hk.blk h2, rfl, h4.keepC hk (Nat.le_refl _)⟩
    case hIx =>
      rintro c W1 W2 ⟨rfl, h2, h4⟩ hk
      exact ⟨rfl, hk.blk h2, h4.keepC hk (Nat.le_refl _)⟩
    case h0 => exact ⟨Nat.zero_le _, Q8.out, R9.out, rfl, Only.refl _ _⟩
    case done =>
      rintro D S W hD ⟨hle, hn, hr, rfl, hO⟩ hKd
      have her : er = none := by
        rw [outs_len HSC.out] at hle
        cases er with
        | none => rfl
        | some pe => simp at hle; omega
      obtain ⟨rfl, -, rfl, rfl⟩ := HTD9.out.row her
      have hol : (outs s).length = ws.length := by rw [outs_len HSC.out, her]; rfl
      rw [hol] at hn
      obtain ⟨n0, nl⟩ := hn.facts1
      obtain ⟨r0, rl⟩ := hr.facts1
      have fr := hr.frozen 0
      obtain ⟨a0, al⟩ := (hO.blk Q5.out (by simp; omega)).facts1
      obtain ⟨d0, dl⟩ := (hO.blk Q7.out (by simp; omega)).facts1
      have HRB := Lib.hid hr
      have HD := Lib.hid hKd
      have HOO := Lib.hid (show Only [] w W from HO9.out.trans hO (fun b hb => by have := HWB.out; simp at hb; right; omega))
      clear hn hr hO hKd hle her hol
      go_wp2_with (fail)
      have hr2 := HRB.out.set_ 0 (.bool true)
      have hO2 := HOO.out.setCell (p := ⟨rb + 1, 0, none⟩) (.inr (by have := HWB.out; simp; omega)) (.bool true)
      have hK3 := ((only_setCell W ⟨rb + 1, 0, none⟩ (.bool true)).block D (Array.getElem?_eq_some_iff.1 HD.out).1 (by simp; omega)).trans HD.out
      refine ⟨by simp, .inl ⟨_, _, rfl, run_takeDeferred hK3, ?_⟩⟩
      have hk := KeepC.putObj (B := D) (o' := .deferred none) hK3 rfl (Nat.le_refl _)
      obtain ⟨x0, _⟩ := (hk.blk hr2).facts1
      exact ⟨.bool true, by simp [results, Tryd.results5, go_sem, x0], rfl, hO2.keepC hk (by have := HWB.out; omega)⟩
    case stop =>
      rintro D c W hD ⟨rfl, hr, hO⟩ hKd
      have HRB := Lib.hid hr
      have HD := Lib.hid hKd
      have HOO := Lib.hid (show Only [] w W from HO9.out.trans hO (fun b hb => by have := HWB.out; simp at hb; right; omega))
      clear hr hO hKd
      go_wp2_with (fail)
      refine ⟨by simp, .inl ⟨_, _, rfl, run_takeDeferred HD.out, ?_⟩⟩
      have hk := KeepC.putObj (B := D) (o' := .deferred none) HD.out rfl (Nat.le_refl _)
      obtain ⟨x0, _⟩ := (hk.blk HRB.out).facts1
      exact ⟨.bool true, by simp [results, Tryd.results5, go_sem, x0], rfl, HOO.out.keepC hk (by have := HWB.out; omega)⟩
    case round =>
      intro l k v S V hl hlS hk hv hIV
      have hkl0 := hIV.1
      clear hIV
      rcases outs_ok HSC.out hv with ⟨x, hx, rfl⟩ | ⟨rfl, p', e', rfl, rfl, he0⟩
      · have HX := Lib.hid hx
        have hkw : k < ws.length := (List.getElem?_eq_some_iff.1 hx).1
        clear hv hx
        unfold okT tokC
        gi_wp2_with (fail)
        refine ⟨(Only.refl [] V).alloc _, fun X hrec hIX hkk => ?_⟩
        obtain ⟨_, hn, hr, rfl, hO⟩ := hIX
        have HXB := Lib.hid (hkk.blk (Blk.new V 28 #[.int .i64 x.t.kind, .string ⟨x.t.s.toArray⟩, .int .i64 x.t.n, .int .i64 x.at_]))
        have HNB := Lib.hid hn
        have HRB := Lib.hid hr
        have HOX := Lib.hid hO
        have HQ5 := Lib.hid (hO.blk Q5.out (by simp; omega))
        have HQ7 := Lib.hid (hO.blk Q7.out (by simp; omega))
        have HSB := Lib.hid (hO.blk S9.out (by simp; omega))
        have HTX := Lib.hid (HTD9.out.only hO (fun q hq => by have := HTL.out q hq; simp; omega))
        obtain ⟨pb, hpb⟩ : ∃ pb, V.heap.size = pb := ⟨_, rfl⟩
        rw [hpb] at HXB ⊢
        obtain ⟨k0, k1, k2, k3, kl⟩ := HXB.out.facts4
        obtain ⟨n0, nl⟩ := hn.facts1
        obtain ⟨a0, al⟩ := HQ5.out.facts1
        obtain ⟨d0, dl⟩ := HQ7.out.facts1
        obtain ⟨s0, sl⟩ := HSB.out.facts1
        obtain ⟨r0, rl⟩ := hr.facts1
        have fr := hr.frozen 0
        have fn := hn.frozen 0
        have hkb : (k : Int) ≤ 1000000 := by omega
        clear hn hr hO hkk hrec hpb
        cases er with
        | none =>
          obtain ⟨rfl, hrow, rfl, rfl⟩ := HTX.out.row rfl
          obtain ⟨b, o, rfl, hb, c0, c1, c2, c3⟩ := hrow.at HX.out
          have hneq := fun W => neqT x W
          have hge : decide (ws.length ≤ k) = false := decide_eq_false (by omega)
          have hge2 : decide ((ws.length : Int) ≤ (k : Int)) = false := decide_eq_false (by omega)
          have hki : (0 : Int) ≤ (k : Int) := by omega
          have hki2 : (k : Int) < (ws.length : Int) := by omega
          clear hrow
          gi_wp2_with (fail)
          refine wpIn_round_quiet (by kernel_rfl) (by kernel_rfl) (by kernel_rfl) (fun _ _ h => h) ?_
          repeat (first | go_big_quiet_step (fail) | quiet_step (fail))
          refine wpQuiet_nil ?_
          intro _ hw'
          obtain ⟨nq, hw''⟩ := hw'
          subst hw''
          clear c0 c1 c2 c3 hneq hge hge2 k0 k1 k2 k3
          have HOXd := HOX.out
          by_cases hbr : z ≤ (k : Int) + 1
          · have hd : decide (z ≤ (k : Int) + 1) = true := by simpa using hbr
            gi_wp2_with (fail)
            have o1 : Only [rb + 1, qb + 1 + 1 + 1] X (((X.drewN nq).setCell ⟨qb + 1 + 1 + 1, 0, none⟩ (.int .i64 ((k : Int) + 1))).setCell ⟨rb + 1, 0, none⟩ (.bool true)) := ((((Only.refl _ X).drewN nq).setCell (.inl (by simp)) _).setCell (.inl (by simp)) _)
            exact ⟨⟨rfl, (((HRB.out.drewN nq).far (by simp; omega) _).set_ 0 _), HOXd.trans o1 (fun b hb => .inl hb)⟩, o1⟩
          · have hd : decide (z ≤ (k : Int) + 1) = false := by simpa using hbr
            gi_wp2_with (fail)
            have o1 : Only [rb + 1, qb + 1 + 1 + 1] X ((X.drewN nq).setCell ⟨qb + 1 + 1 + 1, 0, none⟩ (.int .i64 ((k : Int) + 1))) := ((Only.refl _ X).drewN nq).setCell (.inl (by simp)) _
            have n1 : Blk ((X.drewN nq).setCell ⟨qb + 1 + 1 + 1, 0, none⟩ (.int .i64 ((k : Int) + 1))) (qb + 1 + 1 + 1) 3 #[.int .i64 ((k + 1 : Nat) : Int)] := (HNB.out.drewN nq).set_ 0 _
            have r1 : Blk ((X.drewN nq).setCell ⟨qb + 1 + 1 + 1, 0, none⟩ (.int .i64 ((k : Int) + 1))) (rb + 1) 4 #[.bool false] := (HRB.out.drewN nq).far (by simp; omega) _
            refine ⟨⟨_, ⟨by omega, n1, r1, rfl, HOXd.trans o1 (fun b hb => .inl hb)⟩, fun b hb => ⟨.inl hb, ?_⟩⟩, o1⟩
            simp at hb
            rcases hb with rfl | rfl
            · exact r1.lt
            · exact n1.lt
        | some pe =>
          obtain ⟨p', e'⟩ := pe
          have he0 := scanR_err HSC.out
          obtain ⟨rfl, rfl, rfl, rfl⟩ := HTX.out.bad _ _ rfl
          have ee : ((e : Int) == 0) = false := by rw [beq_eq_false_iff_ne]; omega
          clear he0
          gi_wp2_with (fail)
          refine wpIn_round_quiet (by kernel_rfl) (by kernel_rfl) (by kernel_rfl) (fun _ _ h => h) ?_
          repeat (first | go_big_quiet_step (fail) | quiet_step (fail))
          refine wpQuiet_nil ?_
          intro _ hw'
          obtain ⟨nq, hw''⟩ := hw'
          subst hw''
          clear k0 k1 k2 k3
          have HOXd := HOX.out
          by_cases hbr : z ≤ (k : Int) + 1
          · have hd : decide (z ≤ (k : Int) + 1) = true := by simpa using hbr
            gi_wp2_with (fail)
            have o1 : Only [rb + 1, qb + 1 + 1 + 1] X (((X.drewN nq).setCell ⟨qb + 1 + 1 + 1, 0, none⟩ (.int .i64 ((k : Int) + 1))).setCell ⟨rb + 1, 0, none⟩ (.bool true)) := ((((Only.refl _ X).drewN nq).setCell (.inl (by simp)) _).setCell (.inl (by simp)) _)
            exact ⟨⟨rfl, (((HRB.out.drewN nq).far (by simp; omega) _).set_ 0 _), HOXd.trans o1 (fun b hb => .inl hb)⟩, o1⟩
          · have hd : decide (z ≤ (k : Int) + 1) = false := by simpa using hbr
            gi_wp2_with (fail)
            have o1 : Only [rb + 1, qb + 1 + 1 + 1] X ((X.drewN nq).setCell ⟨qb + 1 + 1 + 1, 0, none⟩ (.int .i64 ((k : Int) + 1))) := ((Only.refl _ X).drewN nq).setCell (.inl (by simp)) _
            have n1 : Blk ((X.drewN nq).setCell ⟨qb + 1 + 1 + 1, 0, none⟩ (.int .i64 ((k : Int) + 1))) (qb + 1 + 1 + 1) 3 #[.int .i64 ((k + 1 : Nat) : Int)] := (HNB.out.drewN nq).set_ 0 _
            have r1 : Blk ((X.drewN nq).setCell ⟨qb + 1 + 1 + 1, 0, none⟩ (.int .i64 ((k : Int) + 1))) (rb + 1) 4 #[.bool false] := (HRB.out.drewN nq).far (by simp; omega) _
            refine ⟨⟨_, ⟨by omega, n1, r1, rfl, HOXd.trans o1 (fun b hb => .inl hb)⟩, fun b hb => ⟨.inl hb, ?_⟩⟩, o1⟩
            simp at hb
            rcases hb with rfl | rfl
            · exact r1.lt
            · exact n1.lt
      · obtain ⟨rfl, rfl, rfl, rfl⟩ := HTD9.out.bad _ _ rfl
        have ee : ((e : Int) == 0) = false := by rw [beq_eq_false_iff_ne]; omega
        have ee2 : ((e : Int) != 0) = true := by simp; omega
        have ee3 : ((e : Int) == (e : Int)) = true := by simp
        have heq := fun W => eqT (p := p) W
        clear hv he0
        unfold badT badC
        gi_wp2_with (fail)
        refine ⟨(Only.refl [] V).alloc _, fun X hrec hIX hkk => ?_⟩
        obtain ⟨_, hn, hr, rfl, hO⟩ := hIX
        have HRB := Lib.hid hr
        have HOX := Lib.hid hO
        obtain ⟨k0, k1, k2, k3, kl⟩ := (hkk.blk (Blk.new V 28 #[.int .i64 0, .string ⟨#[]⟩, .int .i64 0, .int .i64 (p : Nat)])).facts4
        obtain ⟨a0, al⟩ := (hO.blk Q6.out (by simp; omega)).facts1
        obtain ⟨d0, dl⟩ := (hO.blk Q7.out (by simp; omega)).facts1
        obtain ⟨r0, rl⟩ := hr.facts1
        have fr := hr.frozen 0
        obtain ⟨pb, hpb⟩ : ∃ pb, V.heap.size = pb := ⟨_, rfl⟩
        rw [hpb] at k0 k1 k2 k3 kl ⊢
        clear hn hr hO hkk hrec hpb
        gi_wp2_with (fail)
        have o1 : Only [rb + 1, qb + 1 + 1 + 1] X (X.setCell ⟨rb + 1, 0, none⟩ (.bool true)) := (Only.refl _ X).setCell (.inl (by simp)) _
        exact ⟨⟨rfl, HRB.out.set_ 0 _, HOX.out.trans o1 (fun b hb => .inl hb)⟩, o1⟩
end Go.Proofs.YtghofiehkdhbeaaDoor
