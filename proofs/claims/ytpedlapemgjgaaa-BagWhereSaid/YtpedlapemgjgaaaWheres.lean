/- BagWhere: the law's own walk. -/
import Derived.Test.YtpedlapemgjgaaaAwake
namespace Go.Proofs.Ytpedlapemgjgaaa
open Go.RowKit Go.Kx Go.Bag
attribute [local go_sem] Oper.semAt_some
set_option maxRecDepth 100000
theorem evs_perm {L M : List Int} (h : L.Perm M) : (evs L).length = (evs M).length := (h.filter _).length_eq
theorem evs_mem {L : List Int} {k : Nat} {x : Int} (h : (evs L)[k]? = some x) : evB x = true := (List.mem_filter.1 (List.mem_of_getElem? h)).2
theorem valsE_has {L : List Int} {k : Nat} {v : Array Value} (h : (valsE L)[k]? = some v) : ∃ x, L[k]? = some x ∧ v = #[.int .i64 x] := by
  unfold valsE at h
  rw [List.getElem?_map] at h
  cases hx : L[k]? with
  | none => rw [hx] at h; cases h
  | some x => rw [hx] at h; exact ⟨x, rfl, (Option.some.inj h).symm⟩
theorem wheres_many {A : Option Addr} {cap : Nat} {L : List Int} {z : Int} {w : World} (hl : 200 < L.length) (h1 : L.length ≤ 9223372036854775807) :
    Calls Try.prog 5 #[.slice A L.length cap, .int .u8 z] w fun e w' => e = .returned (.bool true) ∧ Only [] w w' := by
  generalize L.length = n at *
  have hg : decide ((200 : Int) < (n : Int)) = true := by simp; omega
  have br : Blk ((w.alloc (.cells #[.int .u8 z] 5)).alloc (.cells #[.bool false] 4)) (w.heap.size + 1) 4 #[.bool false] := by have h := Blk.new (w.alloc (.cells #[.int .u8 z] 5)) 4 #[.bool false]; simpa using h
  have oo : Only [] w ((w.alloc (.cells #[.int .u8 z] 5)).alloc (.cells #[.bool false] 4)) := ((Only.refl _ _).alloc _).alloc _
  have HBR := Lib.hid br
  have HOO := Lib.hid oo
  clear br oo
  refine calls_marks Try.func5 rfl ?_
  simp only [Try.ntmps5, List.size_toArray, List.length_cons, List.length_nil, Nat.reduceAdd, Nat.reduceSub, Array.replicate_succ, Array.replicate_zero, List.push_toArray, List.append_toArray, List.nil_append, List.cons_append]
  go_wp2_with (fail)
  refine (awake_any _).mono ?_
  rintro e w1 ⟨rfl, o1⟩
  have R1 := Lib.hid (o1.blk HBR.out (by simp))
  have HO1 := Lib.hid (HOO.out.trans o1 (by simp))
  clear o1
  go_wp2_with (fail)
  refine (awake_any _).mono ?_
  rintro e w2 ⟨rfl, o2⟩
  have hr4 := o2.blk R1.out (by simp)
  have HO4 := Lib.hid (HO1.out.trans o2 (by simp))
  obtain ⟨r0, rl⟩ := hr4.facts1
  have fr := hr4.frozen 0
  have hr2 := hr4.set_ 0 (.bool true)
  obtain ⟨x0, _⟩ := Blk.facts1 (a := .bool true) hr2
  have X0 := Lib.hid x0
  clear o2 hr4 hr2 x0
  go_wp2_with (fail)
  exact ⟨.bool true, by simp [results, Try.results5, go_sem, X0.out], rfl, HO4.out.setCell (.inr (by simp)) _⟩
set_option maxHeartbeats 4000000 in
theorem wheres_few {A : Option Addr} {cap : Nat} {L : List Int} {z : Int} {w : World} (hL : RowC w A (flat1 L)) (hz0 : 0 ≤ z) (hz1 : z ≤ 255) (h1 : L.length ≤ 200) :
    Calls Try.prog 5 #[.slice A L.length cap, .int .u8 z] w fun e w' => e = .returned (.bool true) ∧ Only [] w w' := by
  obtain ⟨n, hn⟩ : ∃ n, L.length = n := ⟨_, rfl⟩
  rw [hn] at h1 ⊢
  have HN := Lib.hid hn
  have HL := Lib.hid hL
  clear hn hL
  have hg : decide ((200 : Int) < (n : Int)) = false := by simp; omega
  have bz : Blk ((w.alloc (.cells #[.int .u8 z] 5)).alloc (.cells #[.bool false] 4)) w.heap.size 5 #[.int .u8 z] := (Blk.new w 5 _).alloc _
  have br : Blk ((w.alloc (.cells #[.int .u8 z] 5)).alloc (.cells #[.bool false] 4)) (w.heap.size + 1) 4 #[.bool false] := by have h := Blk.new (w.alloc (.cells #[.int .u8 z] 5)) 4 #[.bool false]; simpa using h
  have oo : Only [] w ((w.alloc (.cells #[.int .u8 z] 5)).alloc (.cells #[.bool false] 4)) := ((Only.refl _ _).alloc _).alloc _
  have HBR := Lib.hid br
  have HBZ := Lib.hid bz
  have HOO := Lib.hid oo
  clear br bz oo
  refine calls_marks Try.func5 rfl ?_
  simp only [Try.ntmps5, List.size_toArray, List.length_cons, List.length_nil, Nat.reduceAdd, Nat.reduceSub, Array.replicate_succ, Array.replicate_zero, List.push_toArray, List.append_toArray, List.nil_append, List.cons_append]
  go_wp2_with (fail)
  refine (awake_any _).mono ?_
  rintro e w1 ⟨rfl, o1⟩
  obtain ⟨rb, hrb⟩ : ∃ rb, w.heap.size = rb := ⟨_, rfl⟩
  have R1 := Lib.hid (o1.blk HBR.out (by simp))
  have Z1 := Lib.hid (o1.blk HBZ.out (by simp))
  have HO1 := Lib.hid (HOO.out.trans o1 (by simp))
  rw [hrb] at R1 Z1
  rw [hrb]
  have HWB := Lib.hid hrb
  clear o1 HBR HBZ HOO hg hrb
  go_wp2_with (fail)
  refine (newI (cl := cap) (HL.out.only HO1.out) HN.out (by omega)).mono ?_
  rintro e w4 ⟨rfl, ⟨Ax, cx, hb4⟩, o4⟩
  obtain ⟨g, hgx⟩ : ∃ g, w1.heap.size = g := ⟨_, rfl⟩
  rw [hgx] at hb4 ⊢
  have hgr : rb + 1 < g := by rw [← hgx]; exact R1.out.lt
  have HB4 := Lib.hid hb4
  have HO4 := Lib.hid (HO1.out.trans o4 (by simp))
  have R4 := Lib.hid (o4.blk R1.out (by simp))
  have Z4 := Lib.hid (o4.blk Z1.out (by simp))
  have hgl : g < w4.heap.size := hb4.blk.lt
  clear hb4 o4 HO1 R1 Z1 hgx
  go_wp2_with (fail)
  go_loopw [6, 7] (fun kv u wr => ∃ (i : Nat), kv = .int .i64 ((evs (L.take i)).length : Nat) ∧ u = .int .i64 i ∧ i ≤ n ∧ Hid (Only [] w4 wr)) (fun _ u _ => n - (intOf u).toNat)
  case atStart => exact ⟨0, rfl, rfl, Nat.zero_le _, Lib.hid (Only.refl _ _)⟩
  case round =>
    obtain ⟨i, rfl, rfl, hi, HO⟩ := hrel
    have hel := evs_le (L.take i)
    rw [List.length_take, HN.out] at hel
    by_cases hlt : i < n
    · obtain ⟨x, hx⟩ := at_some (L := L) (i := i) (by rw [HN.out]; exact hlt)
      obtain ⟨p, po, rfl, pl, cx0⟩ := rowI (HL.out.only (HO4.out.trans HO.out (by simp))) hx
      have i1 : (i : Int) < (n : Int) := by omega
      have i0 : (0 : Int) ≤ (i : Int) := by omega
      have HT := Lib.hid (take_filter hx)
      clear hx
      cases he : evB x with
      | false =>
        have HT2 := Lib.hid (show evs (L.take (i + 1)) = evs (L.take i) by rw [HT.out, if_neg (by rw [he]; decide)])
        go_wp2_with (fail)
        refine (evb_any x he _).mono ?_
        rintro e w2 ⟨rfl, o2⟩
        have HO2 := Lib.hid (HO.out.trans o2 (by simp))
        clear o2 cx0
        go_wp2_with (fail)
        go_roundw
        case rel => exact ⟨i + 1, by rw [HT2.out], by go_num, by omega, HO2⟩
        case measure => simp [intOf]; omega
      | true =>
        have HT2 := Lib.hid (show (evs (L.take (i + 1))).length = (evs (L.take i)).length + 1 by rw [HT.out, if_pos he, List.length_append]; rfl)
        go_wp2_with (fail)
        refine (evb_any x he _).mono ?_
        rintro e w2 ⟨rfl, o2⟩
        have HO2 := Lib.hid (HO.out.trans o2 (by simp))
        clear o2 cx0
        go_wp2_with (fail)
        go_roundw
        case rel => exact ⟨i + 1, by rw [HT2.out]; go_num, by go_num, by omega, HO2⟩
        case measure => simp [intOf]; omega
    · have hie : i = n := by omega
      have hx2 : ¬ (n : Int) < (n : Int) := by omega
      rw [hie, List.take_of_length_le (by rw [HN.out]; exact Nat.le_refl _)] at hel ⊢
      have HEV := Lib.hid (show (evs (st keyI L)).length = (evs L).length from evs_perm (st_eqv L).perm)
      obtain ⟨v, hv⟩ : ∃ v, (evs L).length = v := ⟨_, rfl⟩
      rw [hv] at HEV hel ⊢
      clear hie hi hlt hv
      have HB5 := Lib.hid (HB4.out.keep HO.out)
      have HO5 := Lib.hid (HO4.out.trans HO.out (by simp))
      have R5 := Lib.hid (HO.out.blk R4.out (by simp))
      have Z5 := Lib.hid (HO.out.blk Z4.out (by simp))
      have hz5 := HO.out.size
      go_wp2_with (fail)
      refine (where_any g _).mono ?_
      rintro e w9' ⟨rfl, rfl⟩
      have q5 : Blk (((wr.alloc (.cells #[.int .i64 0] 3)).alloc (.cells #[.pointer (some ⟨g, 0, none⟩)] 24)).alloc (.cells #[.func (.func 17) #[] #[]] 37)) wr.heap.size 3 #[.int .i64 0] := ((Blk.new wr 3 _).alloc _).alloc _
      have q6 : Blk (((wr.alloc (.cells #[.int .i64 0] 3)).alloc (.cells #[.pointer (some ⟨g, 0, none⟩)] 24)).alloc (.cells #[.func (.func 17) #[] #[]] 37)) (wr.heap.size + 1) 24 #[.pointer (some ⟨g, 0, none⟩)] := by
        have h := Blk.new (wr.alloc (.cells #[.int .i64 0] 3)) 24 #[.pointer (some ⟨g, 0, none⟩)]
        rw [World.size_alloc] at h
        exact h.alloc _
      have q7 : Blk (((wr.alloc (.cells #[.int .i64 0] 3)).alloc (.cells #[.pointer (some ⟨g, 0, none⟩)] 24)).alloc (.cells #[.func (.func 17) #[] #[]] 37)) (wr.heap.size + 1 + 1) 37 #[.func (.func 17) #[] #[]] := by
        have h := Blk.new ((wr.alloc (.cells #[.int .i64 0] 3)).alloc (.cells #[.pointer (some ⟨g, 0, none⟩)] 24)) 37 #[.func (.func 17) #[] #[]]
        rw [World.size_alloc, World.size_alloc] at h
        exact h
      have o9 : Only [] wr (((wr.alloc (.cells #[.int .i64 0] 3)).alloc (.cells #[.pointer (some ⟨g, 0, none⟩)] 24)).alloc (.cells #[.func (.func 17) #[] #[]] 37)) := (((Only.refl _ _).alloc _).alloc _).alloc _
      try simp only [World.size_alloc]
      generalize (((wr.alloc (.cells #[.int .i64 0] 3)).alloc (.cells #[.pointer (some ⟨g, 0, none⟩)] 24)).alloc (.cells #[.func (.func 17) #[] #[]] 37)) = w9 at q5 q6 q7 o9 ⊢
      have hq7 := q7.lt
      obtain ⟨nb, hnb⟩ : ∃ nb, wr.heap.size = nb := ⟨_, rfl⟩
      rw [hnb] at q5 q6 q7 hq7 hz5 ⊢
      have Q5 := Lib.hid q5
      have R9 := Lib.hid (o9.blk R5.out (by simp))
      have Z9 := Lib.hid (o9.blk Z5.out (by simp))
      have HO9 := Lib.hid (HO5.out.trans o9 (by simp))
      have HQ := Lib.hid (where_seqs (HB5.out.keep o9) (by rw [st_len, HN.out]; omega) q7 q6)
      have HPB := Lib.hid (show ∀ b ∈ (nb + 1 + 1) :: g :: blkA Ax, b ∉ [rb + 1, nb] from fun b hb hm => by
        have hx : ∀ x ∈ blkA Ax, g ≤ x ∧ x < nb := fun x hx => by
          have h := blkA_lt HB5.out x hx
          rw [hnb] at h
          exact h
        rcases List.mem_cons.1 hb with h | h
        · simp at hm; omega
        · rcases List.mem_cons.1 h with h | h
          · simp at hm; omega
          · have := hx b h
            simp at hm
            omega)
      clear q5 q6 q7 o9 HO5 R5 Z5 HO hnb
      go_wp2_with (fail)
      refine' wp_rangeFunc_seqsT (gf := 39) (lb := #[.pointer (some ⟨nb + 1 + 1, 0, none⟩), .pointer (some ⟨nb + 1, 0, none⟩)]) (vs := valsE (evs (st keyI L))) (prot := (nb + 1 + 1) :: g :: blkA Ax) rfl (enters Try.func39 (by kernel_rfl) rfl)
        HQ.out (by
          intro v hv
          obtain ⟨k, hk⟩ := List.mem_iff_getElem?.1 hv
          obtain ⟨x, _, rfl⟩ := valsE_has hk
          rfl) [rb + 1, nb] (by simp; omega) HPB.out
        (fun k S W => Blk W nb 3 #[.int .i64 (k : Nat)] ∧ Blk W (rb + 1) 4 #[.bool false] ∧ (k = 0 ∨ (k : Int) < z) ∧ S = [rb + 1, nb] ∧ Only [rb + 1, nb] w9 W)
        (fun c S W => ∃ m : Nat, c = .exit 2 ∧ Blk W nb 3 #[.int .i64 (m : Nat)] ∧ Blk W (rb + 1) 4 #[.bool false] ∧ m ≤ v ∧ (m : Int) = max z 1 ∧ S = [rb + 1, nb] ∧ Only [rb + 1, nb] w9 W) ?hI ?hIx ?h0
        _ (fun k V => V) (fun k V => Only.refl [] V) ?assign ?body ?done ?stop
      case assign =>
        intro l k v w K hv hK
        obtain ⟨x, hx, rfl⟩ := valsE_has hv
        obtain rfl : gi (evs (st keyI L)) k = x := gi_at hx
        clear hv hx
        gi_wp2
        exact hK
      case hI =>
        rintro k S W1 W2 ⟨h1, h2, h3, rfl, h5⟩ hk
        exact ⟨hk.blk h1 (.inr (by simp)), hk.blk h2 (.inr (by simp)), h3, rfl, h5.keepT hk (Nat.le_refl _)⟩
      case hIx =>
        rintro c S W1 W2 ⟨m, hc, h1, h2, h3, h4, rfl, h5⟩ hk
        exact ⟨m, hc, hk.blk h1 (.inr (by simp)), hk.blk h2 (.inr (by simp)), h3, h4, rfl, h5.keepT hk (Nat.le_refl _)⟩
      case h0 => exact ⟨Q5.out, R9.out, .inl rfl, rfl, Only.refl _ _⟩
      case body =>
        rintro l2 k vv S V X hv ⟨hn, hr, hkz, rfl, hO⟩ hk
        obtain ⟨x, hx, rfl⟩ := valsE_has hv
        have hgx : gi (evs (st keyI L)) k = x := gi_at hx
        have hkv : k < v := by rw [← HEV.out]; exact (List.getElem?_eq_some_iff.1 hx).1
        have hev := evs_mem hx
        simp only [hgx]
        clear hk hv hx hgx
        have HNB := Lib.hid hn
        have HRB := Lib.hid hr
        have HOX := Lib.hid hO
        have HZB := Lib.hid (hO.blk Z9.out (by simp; omega))
        clear hn hr hO
        gi_wp2_with (fail)
        refine ⟨trivial, CallsIn.inRound l2 (callsIn_wide.2 ((evb_any x hev X).mono ?_))⟩
        rintro e' w4' ⟨rfl, o4⟩
        have hn4 := o4.blk HNB.out (by simp)
        have hr4 := o4.blk HRB.out (by simp)
        have hz4 := o4.blk HZB.out (by simp)
        obtain ⟨n0, nl⟩ := hn4.facts1
        obtain ⟨z0, zl⟩ := hz4.facts1
        have fn := hn4.frozen 0
        have HN4 := Lib.hid hn4
        have HR4 := Lib.hid hr4
        have HO4' := Lib.hid o4
        have hkb : (k : Int) ≤ 1000 := by omega
        clear hn4 hr4 hz4 o4 HNB HRB HZB hev
        by_cases hbr : z ≤ (k : Int) + 1
        · have hd : decide (z ≤ (k : Int) + 1) = true := by simpa using hbr
          gi_wp2_with (fail)
          have o1 : Only [rb + 1, nb] X (w4'.setCell ⟨nb, 0, none⟩ (.int .i64 ((k : Int) + 1))) := (HO4'.out.mono (fun _ h => by simp at h)).setCell (.inl (by simp)) _
          refine ⟨⟨_, ⟨k + 1, rfl, HN4.out.set_ 0 _, HR4.out.far (by simp; omega) _, by omega, ?_, rfl, HOX.out.trans o1 (fun b hb => .inl hb)⟩, fun b hb => .inl hb⟩, o1⟩
          push_cast
          omega
        · have hd : decide (z ≤ (k : Int) + 1) = false := by simpa using hbr
          gi_wp2_with (fail)
          have o1 : Only [rb + 1, nb] X (w4'.setCell ⟨nb, 0, none⟩ (.int .i64 ((k : Int) + 1))) := (HO4'.out.mono (fun _ h => by simp at h)).setCell (.inl (by simp)) _
          exact ⟨⟨_, ⟨HN4.out.set_ 0 _, HR4.out.far (by simp; omega) _, .inr (by push_cast; omega), rfl, HOX.out.trans o1 (fun b hb => .inl hb)⟩, fun b hb => .inl hb⟩, o1⟩
      case done =>
        rintro D S W hD hDS ⟨hn, hr, -, rfl, hO⟩ hKd
        have e1 : (valsE (evs (st keyI L))).length = v := by unfold valsE; rw [List.length_map, HEV.out]
        rw [e1] at hn
        obtain ⟨n0, nl⟩ := hn.facts1
        obtain ⟨r0, rl⟩ := hr.facts1
        obtain ⟨z0, zl⟩ := (hO.blk Z9.out (by simp; omega)).facts1
        have fr := hr.frozen 0
        have HRB := Lib.hid hr
        have HD := Lib.hid hKd
        have HOO := Lib.hid (show Only [] w W from HO9.out.trans hO (fun b hb => by have := HWB.out; simp at hb; right; omega))
        have e0 : ((v : Int) == (v : Int)) = true := by simp
        clear hn hr hO hKd hDS e1
        go_wp2_with (fail)
        have hr2 := HRB.out.set_ 0 (.bool true)
        have hO2 := HOO.out.setCell (p := ⟨rb + 1, 0, none⟩) (.inr (by have := HWB.out; simp; omega)) (.bool true)
        have hK3 := ((only_setCell W ⟨rb + 1, 0, none⟩ (.bool true)).block D (Array.getElem?_eq_some_iff.1 HD.out).1 (by simp; omega)).trans HD.out
        refine ⟨by simp, .inl ⟨_, _, rfl, run_takeDeferred hK3, ?_⟩⟩
        have hk := KeepC.putObj (B := D) (o' := .deferred none) hK3 rfl (Nat.le_refl _)
        obtain ⟨x0, _⟩ := (hk.blk hr2).facts1
        exact ⟨.bool true, by simp [results, Try.results5, go_sem, x0], rfl, hO2.keepC hk (by have := HO9.out.size; omega)⟩
      case stop =>
        rintro D c S W hD hDS ⟨m, rfl, hn, hr, hmv, hmz, rfl, hO⟩ hKd
        obtain ⟨n0, nl⟩ := hn.facts1
        obtain ⟨r0, rl⟩ := hr.facts1
        obtain ⟨z0, zl⟩ := (hO.blk Z9.out (by simp; omega)).facts1
        have fr := hr.frozen 0
        have HRB := Lib.hid hr
        have HD := Lib.hid hKd
        have HOO := Lib.hid (show Only [] w W from HO9.out.trans hO (fun b hb => by have := HWB.out; simp at hb; right; omega))
        clear hn hr hO hKd hDS
        have hmx : ∀ q : Int, (q = 1 ∧ z ≤ 1) ∨ (q = z ∧ 1 < z) → ((m : Int) == q) = true := by
          intro q hq
          rw [beq_iff_eq]
          omega
        have HMX := Lib.hid hmx
        clear hmx hmz
        have fin : ∀ (b : Bool) (a : Act), b = true → a.tmps = #[] → True := fun _ _ _ _ => trivial
        clear fin
        by_cases hme : m = v
        · have e0 : ((m : Int) == (v : Int)) = true := by rw [beq_iff_eq]; omega
          go_wp2_with (fail)
          have hr2 := HRB.out.set_ 0 (.bool true)
          have hO2 := HOO.out.setCell (p := ⟨rb + 1, 0, none⟩) (.inr (by have := HWB.out; simp; omega)) (.bool true)
          have hK3 := ((only_setCell W ⟨rb + 1, 0, none⟩ (.bool true)).block D (Array.getElem?_eq_some_iff.1 HD.out).1 (by simp; omega)).trans HD.out
          refine ⟨by simp, .inl ⟨_, _, rfl, run_takeDeferred hK3, ?_⟩⟩
          have hk := KeepC.putObj (B := D) (o' := .deferred none) hK3 rfl (Nat.le_refl _)
          obtain ⟨x0, _⟩ := (hk.blk hr2).facts1
          exact ⟨.bool true, by simp [results, Try.results5, go_sem, x0], rfl, hO2.keepC hk (by have := HO9.out.size; omega)⟩
        · have e0 : ((m : Int) == (v : Int)) = false := beq_eq_false_iff_ne.2 (by omega)
          have e1 : m < v := by omega
          have e2 : decide ((m : Int) < (v : Int)) = true := decide_eq_true (by omega)
          rcases Int.lt_trichotomy z 1 with hz | hz | hz
          · have e3 := HMX.out 1 (.inl ⟨rfl, by omega⟩)
            have e4 : max z 1 = 1 := by omega
            go_wp2_with (fail)
            have hr2 := HRB.out.set_ 0 (.bool true)
            have hO2 := HOO.out.setCell (p := ⟨rb + 1, 0, none⟩) (.inr (by have := HWB.out; simp; omega)) (.bool true)
            have hK3 := ((only_setCell W ⟨rb + 1, 0, none⟩ (.bool true)).block D (Array.getElem?_eq_some_iff.1 HD.out).1 (by simp; omega)).trans HD.out
            refine ⟨by simp, .inl ⟨_, _, rfl, run_takeDeferred hK3, ?_⟩⟩
            have hk := KeepC.putObj (B := D) (o' := .deferred none) hK3 rfl (Nat.le_refl _)
            obtain ⟨x0, _⟩ := (hk.blk hr2).facts1
            exact ⟨.bool true, by simp [results, Try.results5, go_sem, x0], rfl, hO2.keepC hk (by have := HO9.out.size; omega)⟩
          · subst hz
            have e3 := HMX.out 1 (.inl ⟨rfl, by omega⟩)
            go_wp2_with (fail)
            have hr2 := HRB.out.set_ 0 (.bool true)
            have hO2 := HOO.out.setCell (p := ⟨rb + 1, 0, none⟩) (.inr (by have := HWB.out; simp; omega)) (.bool true)
            have hK3 := ((only_setCell W ⟨rb + 1, 0, none⟩ (.bool true)).block D (Array.getElem?_eq_some_iff.1 HD.out).1 (by simp; omega)).trans HD.out
            refine ⟨by simp, .inl ⟨_, _, rfl, run_takeDeferred hK3, ?_⟩⟩
            have hk := KeepC.putObj (B := D) (o' := .deferred none) hK3 rfl (Nat.le_refl _)
            obtain ⟨x0, _⟩ := (hk.blk hr2).facts1
            exact ⟨.bool true, by simp [results, Try.results5, go_sem, x0], rfl, hO2.keepC hk (by have := HO9.out.size; omega)⟩
          · have e3 := HMX.out z (.inr ⟨rfl, by omega⟩)
            have e4 : max z 1 = z := by omega
            go_wp2_with (fail)
            have hr2 := HRB.out.set_ 0 (.bool true)
            have hO2 := HOO.out.setCell (p := ⟨rb + 1, 0, none⟩) (.inr (by have := HWB.out; simp; omega)) (.bool true)
            have hK3 := ((only_setCell W ⟨rb + 1, 0, none⟩ (.bool true)).block D (Array.getElem?_eq_some_iff.1 HD.out).1 (by simp; omega)).trans HD.out
            refine ⟨by simp, .inl ⟨_, _, rfl, run_takeDeferred hK3, ?_⟩⟩
            have hk := KeepC.putObj (B := D) (o' := .deferred none) hK3 rfl (Nat.le_refl _)
            obtain ⟨x0, _⟩ := (hk.blk hr2).facts1
            exact ⟨.bool true, by simp [results, Try.results5, go_sem, x0], rfl, hO2.keepC hk (by have := HO9.out.size; omega)⟩
theorem bagwhere_any {A : Option Addr} {cap : Nat} {L : List Int} {z : Int} {w : World} (hL : RowC w A (flat1 L)) (hz0 : 0 ≤ z) (hz1 : z ≤ 255) (h1 : L.length ≤ 9223372036854775807) :
    Calls Try.prog 5 #[.slice A L.length cap, .int .u8 z] w fun e w' => e = .returned (.bool true) ∧ Only [] w w' := by
  by_cases hl : 200 < L.length
  · exact wheres_many hl h1
  · exact wheres_few hL hz0 hz1 (by omega)
end Go.Proofs.Ytpedlapemgjgaaa
