/- BagSorts: the law's own walk. -/
import Derived.Test.YtpedlapemgjgaaaAwake
namespace Go.Proofs.Ytpedlapemgjgaaa
open Go.RowKit Go.Kx Go.Bag
attribute [local go_sem] Oper.semAt_some
set_option maxRecDepth 100000
theorem behind_ahead (L : List Int) (x : Int) : ((behindB keyI L x : Nat) : Int) - ((aheadB keyI L x : Nat) : Int) = ((L.count x : Nat) : Int) := by
  have e : behindB keyI L x = aheadB keyI L x + L.count x := by
    unfold behindB aheadB
    induction L with
    | nil => rfl
    | cons a r ih =>
      rw [List.countP_cons, List.countP_cons, List.count_cons, ih]
      unfold keyI
      rcases Int.lt_trichotomy a x with h | h | h
      · have h1 : a ≤ x := by omega
        have h2 : (a == x) = false := beq_eq_false_iff_ne.2 (by omega)
        simp [h, h1, h2]
        omega
      · subst h
        simp
        omega
      · have h1 : ¬ a ≤ x := by omega
        have h2 : ¬ a < x := by omega
        have h3 : (a == x) = false := beq_eq_false_iff_ne.2 (by omega)
        simp [h1, h2, h3]
  omega
theorem st_count (L : List Int) (x : Int) : (st keyI L).count x = L.count x := (st_eqv L).count x
theorem sorted_next {L : List Int} (h : Sorted keyI L) {k : Nat} {x y : Int} (hx : L[k]? = some x) (hy : L[k + 1]? = some y) : x ≤ y := by
  have hk := (List.getElem?_eq_some_iff.1 hy).1
  have h2 := (List.pairwise_iff_getElem.1 h) k (k + 1) (by omega) hk (by omega)
  have e1 : L[k] = x := (List.getElem?_eq_some_iff.1 hx).2
  have e2 : L[k + 1] = y := (List.getElem?_eq_some_iff.1 hy).2
  rw [e1, e2] at h2
  exact h2
theorem sorts_many {A : Option Addr} {cap : Nat} {L : List Int} {w : World} (hl : 200 < L.length) (h1 : L.length ≤ 9223372036854775807) :
    Calls Try.prog 3 #[.slice A L.length cap] w fun e w' => e = .returned (.bool true) ∧ Only [] w w' := by
  generalize L.length = n at *
  have hg : decide ((200 : Int) < (n : Int)) = true := by simp; omega
  have br : Blk (w.alloc (.cells #[.bool false] 4)) w.heap.size 4 #[.bool false] := Blk.new w 4 _
  have oo : Only [] w (w.alloc (.cells #[.bool false] 4)) := (Only.refl _ _).alloc _
  have HBR := Lib.hid br
  have HOO := Lib.hid oo
  clear br oo
  refine calls_marks Try.func3 rfl ?_
  simp only [Try.ntmps3, List.size_toArray, List.length_cons, List.length_nil, Nat.reduceAdd, Nat.reduceSub, Array.replicate_succ, Array.replicate_zero, List.push_toArray, List.append_toArray, List.nil_append, List.cons_append]
  go_wp2_with (fail)
  refine (awake_any _).mono ?_
  rintro e w1 ⟨rfl, o1⟩
  have R1 := Lib.hid (o1.blk HBR.out (by simp))
  have HO1 := Lib.hid (HOO.out.trans o1 (by simp))
  clear o1
  go_wp2_with (fail)
  refine (awake_any _).mono ?_
  rintro e w2 ⟨rfl, o2⟩
  have hr4 := o2.blk R1.out (by simp)
  have HO4 := Lib.hid (HO1.out.trans o2 (by simp))
  obtain ⟨r0, rl⟩ := hr4.facts1
  have fr := hr4.frozen 0
  have hr2 := hr4.set_ 0 (.bool true)
  obtain ⟨x0, _⟩ := Blk.facts1 (a := .bool true) hr2
  have X0 := Lib.hid x0
  clear o2 hr4 hr2 x0
  go_wp2_with (fail)
  exact ⟨.bool true, by simp [results, Try.results3, go_sem, X0.out], rfl, HO4.out.setCell (.inr (by simp)) _⟩
set_option maxHeartbeats 4000000 in
theorem sorts_few {A : Option Addr} {cap : Nat} {L : List Int} {w : World} (hL : RowC w A (flat1 L)) (h1 : L.length ≤ 200) :
    Calls Try.prog 3 #[.slice A L.length cap] w fun e w' => e = .returned (.bool true) ∧ Only [] w w' := by
  obtain ⟨n, hn⟩ : ∃ n, L.length = n := ⟨_, rfl⟩
  rw [hn] at h1 ⊢
  have HN := Lib.hid hn
  have HL := Lib.hid hL
  clear hn hL
  have hg : decide ((200 : Int) < (n : Int)) = false := by simp; omega
  have br : Blk (w.alloc (.cells #[.bool false] 4)) w.heap.size 4 #[.bool false] := Blk.new w 4 _
  have oo : Only [] w (w.alloc (.cells #[.bool false] 4)) := (Only.refl _ _).alloc _
  have HBR := Lib.hid br
  have HOO := Lib.hid oo
  clear br oo
  refine calls_marks Try.func3 rfl ?_
  simp only [Try.ntmps3, List.size_toArray, List.length_cons, List.length_nil, Nat.reduceAdd, Nat.reduceSub, Array.replicate_succ, Array.replicate_zero, List.push_toArray, List.append_toArray, List.nil_append, List.cons_append]
  go_wp2_with (fail)
  refine (awake_any _).mono ?_
  rintro e w1 ⟨rfl, o1⟩
  obtain ⟨rb, hrb⟩ : ∃ rb, w.heap.size = rb := ⟨_, rfl⟩
  have R1 := Lib.hid (o1.blk HBR.out (by simp))
  have HO1 := Lib.hid (HOO.out.trans o1 (by simp))
  rw [hrb] at R1
  rw [hrb]
  have HWB := Lib.hid hrb
  clear o1 HBR HOO hg hrb
  go_wp2_with (fail)
  refine (newI (cl := cap) (HL.out.only HO1.out) HN.out (by omega)).mono ?_
  rintro e w4 ⟨rfl, ⟨Ax, cx, hb4⟩, o4⟩
  obtain ⟨g, hgx⟩ : ∃ g, w1.heap.size = g := ⟨_, rfl⟩
  rw [hgx] at hb4 ⊢
  have hgr : rb < g := by rw [← hgx]; exact R1.out.lt
  have HB4 := Lib.hid hb4
  have HO4 := Lib.hid (HO1.out.trans o4 (by simp))
  have R4 := Lib.hid (o4.blk R1.out (by simp))
  have hgl : g < w4.heap.size := hb4.blk.lt
  clear hb4 o4 HO1 R1 hgx
  go_wp2_with (fail)
  obtain ⟨w8, hw8⟩ : ∃ w8, ((w4.alloc (.cells #[.int .i64 0] 3)).alloc (.cells #[.int .i64 0] 3)) = w8 := ⟨_, rfl⟩
  have q5 : Blk w8 w4.heap.size 3 #[.int .i64 0] := by rw [← hw8]; exact (Blk.new w4 3 _).alloc _
  have q6 : Blk w8 (w4.heap.size + 1) 3 #[.int .i64 0] := by
    rw [← hw8]
    have h := Blk.new (w4.alloc (.cells #[.int .i64 0] 3)) 3 #[.int .i64 0]
    rw [World.size_alloc] at h
    exact h
  have o8 : Only [] w4 w8 := by rw [← hw8]; exact ((Only.refl _ _).alloc _).alloc _
  rw [hw8]
  clear hw8
  refine (all_any (some ⟨g, 0, none⟩) w8).mono ?_
  rintro e w9' ⟨rfl, rfl⟩
  have bc := Blk.new w8 24 #[.pointer (some ⟨g, 0, none⟩)]
  have o9 : Only [] w8 (w8.alloc (.cells #[.pointer (some ⟨g, 0, none⟩)] 24)) := (Only.refl _ _).alloc _
  have h89 := bc.lt
  generalize w8.alloc (.cells #[.pointer (some ⟨g, 0, none⟩)] 24) = w9 at bc o9 h89 ⊢
  have h48 := o8.size
  have hq6 := q6.lt
  obtain ⟨cb, hcb⟩ : ∃ cb, w8.heap.size = cb := ⟨_, rfl⟩
  obtain ⟨nb, hnb⟩ : ∃ nb, w4.heap.size = nb := ⟨_, rfl⟩
  rw [hcb] at bc h89 hq6 h48 ⊢
  rw [hnb] at q5 q6 hq6 h48 hgl ⊢
  have o49 := o8.trans o9 (by simp)
  have Q5 := Lib.hid (o9.blk q5 (by simp))
  have Q6 := Lib.hid (o9.blk q6 (by simp))
  have R9 := Lib.hid (o49.blk R4.out (by simp))
  have HB9 := Lib.hid (HB4.out.keep o49)
  have HO9 := Lib.hid (HO4.out.trans o49 (by simp))
  have HSL := Lib.hid (show (st keyI L).length = n by rw [st_len, HN.out])
  have HQ := Lib.hid (all_seqs HB9.out (by rw [HSL.out]; omega) bc)
  have HPB := Lib.hid (show ∀ b ∈ cb :: g :: blkA Ax, b ∉ [rb, nb, nb + 1] from fun b hb hm => by
    have hx : ∀ x ∈ blkA Ax, g ≤ x ∧ x < nb := fun x hx => by
      have h := blkA_lt HB4.out x hx
      rw [hnb] at h
      exact h
    rcases List.mem_cons.1 hb with h | h
    · simp at hm; omega
    · rcases List.mem_cons.1 h with h | h
      · simp at hm; omega
      · have := hx b h
        simp at hm
        omega)
  clear q5 q6 o8 o9 o49 bc HO4 R4 HB4 hnb hcb
  go_wp2_with (fail)
  refine' wp_rangeFunc_seqsT (gf := 36) (lb := #[.pointer (some ⟨cb, 0, none⟩)]) (vs := pairs 0 (st keyI L)) (prot := cb :: g :: blkA Ax) rfl (enters Try.func36 (by kernel_rfl) rfl)
    HQ.out (by
      intro v hv
      obtain ⟨k, hk⟩ := List.mem_iff_getElem?.1 hv
      obtain ⟨x, _, rfl⟩ := pairs_has hk
      rfl) [rb, nb, nb + 1] (by simp; omega) HPB.out
    (fun k S W => Blk W nb 3 #[.int .i64 (k : Nat)] ∧ (∃ lv, Blk W (nb + 1) 3 #[.int .i64 lv] ∧ (∀ j, j + 1 = k → (st keyI L)[j]? = some lv)) ∧ Blk W rb 4 #[.bool false] ∧ S = [rb, nb, nb + 1] ∧ Only [rb, nb, nb + 1] w9 W)
    (fun c S W => False) ?hI ?hIx ?h0
    _ (fun k V => V) (fun k V => Only.refl [] V) ?assign ?body ?done ?stop
  case assign =>
    intro l k v w K hv hK
    obtain ⟨x, hx, rfl⟩ := pairs_has hv
    obtain rfl : gi (st keyI L) k = x := gi_at hx
    clear hv hx
    gi_wp2
    exact hK
  case hI =>
    rintro k S W1 W2 ⟨h1, ⟨lv, h2, h3⟩, h4, rfl, h5⟩ hk
    exact ⟨hk.blk h1 (.inr (by simp)), ⟨lv, hk.blk h2 (.inr (by simp)), h3⟩, hk.blk h4 (.inr (by simp)), rfl, h5.keepT hk (Nat.le_refl _)⟩
  case hIx => exact fun _ _ _ _ h => h.elim
  case h0 => exact ⟨Q5.out, ⟨0, Q6.out, fun j h => by omega⟩, R9.out, rfl, Only.refl _ _⟩
  case stop => exact fun _ _ _ _ _ _ h => h.elim
  case body =>
    rintro l2 k vv S V X hv ⟨hn, ⟨lv, hlb, hlv⟩, hr, rfl, hO⟩ hk
    obtain ⟨x, hx, rfl⟩ := pairs_has hv
    have hgx : gi (st keyI L) k = x := gi_at hx
    have hkn : k < n := by rw [← HSL.out]; exact (List.getElem?_eq_some_iff.1 hx).1
    have HLV := Lib.hid hlv
    have HNB := Lib.hid hn
    have HLB := Lib.hid hlb
    have HRB := Lib.hid hr
    have HOX := Lib.hid hO
    have HX := Lib.hid hx
    obtain ⟨n0, nl⟩ := hn.facts1
    obtain ⟨l0, ll⟩ := hlb.facts1
    have fn := hn.frozen 0
    have fl := hlb.frozen 0
    have e0 : ((k : Int) != (k : Int)) = false := by simp
    simp only [hgx]
    have fin : ∀ W, W = (X.setCell ⟨nb + 1, 0, none⟩ (.int .i64 x)).setCell ⟨nb, 0, none⟩ (.int .i64 ((k : Int) + 1)) → seqPostT (fun k S W => Blk W nb 3 #[.int .i64 (k : Nat)] ∧ (∃ lv, Blk W (nb + 1) 3 #[.int .i64 lv] ∧ (∀ j, j + 1 = k → (st keyI L)[j]? = some lv)) ∧ Blk W rb 4 #[.bool false] ∧ S = [rb, nb, nb + 1] ∧ Only [rb, nb, nb + 1] w9 W) (fun c S W => False) k [rb, nb, nb + 1] X .normal { tmps := #[], defers := [] } W := by
      rintro W rfl
      have o1 : Only [rb, nb, nb + 1] X ((X.setCell ⟨nb + 1, 0, none⟩ (.int .i64 x)).setCell ⟨nb, 0, none⟩ (.int .i64 ((k : Int) + 1))) := ((Only.refl _ X).setCell (.inl (by simp)) _).setCell (.inl (by simp)) _
      refine ⟨⟨_, ⟨(HNB.out.far (by simp) _).set_ 0 _, ⟨x, (HLB.out.set_ 0 _).far (by simp) _, fun j hj => ?_⟩, (HRB.out.far (by simp; omega) _).far (by simp; omega) _, rfl, HOX.out.trans o1 (fun b hb => .inl hb)⟩, fun b hb => .inl hb⟩, o1⟩
      obtain rfl : j = k := by omega
      exact HX.out
    have HF := Lib.hid fin
    clear hn hlb hr hO hk hv hx hgx hlv fin
    rcases Nat.eq_zero_or_pos k with hk0 | hk0
    · have e1 : decide ((0 : Int) < (k : Int)) = false := decide_eq_false (by omega)
      have e2 : ¬ 0 < k := by omega
      clear hk0
      gi_wp2_with (fail)
      exact HF.out _ rfl
    · have HL1 := HLV.out (k - 1) (by omega)
      have hle : lv ≤ x := sorted_next (st_sorted L) HL1 (by rw [show k - 1 + 1 = k by omega]; exact HX.out)
      have e1 : decide ((0 : Int) < (k : Int)) = true := decide_eq_true (by omega)
      have e2 : 0 < k := by omega
      have e3 : decide (x < lv) = false := decide_eq_false (by omega)
      clear HL1 hle
      gi_wp2_with (fail)
      exact HF.out _ rfl
  case done =>
    rintro D S W hD hDS ⟨hn, ⟨lv, hlb, -⟩, hr, rfl, hO⟩ hKd
    rw [pairs_len, HSL.out] at hn
    have HNB := Lib.hid hn
    have HRB := Lib.hid hr
    have HOO := Lib.hid (show Only [] w W from HO9.out.trans hO (fun b hb => by have := HWB.out; simp at hb; right; omega))
    have HBW := Lib.hid (show BBI g W g (st keyI L) Ax cx from ⟨hO.blk HB9.out.blk (HPB.out g (by simp)), ownsRow_only hO HB9.out.row (fun b hb => HPB.out b (by
      cases Ax with
      | none => cases hb
      | some p => simp [Value.ownBlock] at hb; subst hb; simp [blkA])), HB9.out.srt⟩)
    have HD := Lib.hid hKd
    clear hn hlb hr hO hKd hDS
    go_wp2_with (fail)
    go_loopw [8] (fun u wr => ∃ (i : Nat), u = .int .i64 i ∧ i ≤ n ∧ Hid (Only [] W wr)) (fun u _ => n - (intOf u).toNat)
    case atStart => exact ⟨0, rfl, Nat.zero_le _, Lib.hid (Only.refl _ _)⟩
    case round =>
      obtain ⟨wo, rfl⟩ : ∃ wo : World, wo = wr := ⟨_, rfl⟩
      obtain ⟨i, rfl, hi, HO⟩ := hrel
      by_cases hlt : i < n
      · obtain ⟨x, hx⟩ := at_some (L := L) (i := i) (by rw [HN.out]; exact hlt)
        have HX := Lib.hid hx
        have i1 : (i : Int) < (n : Int) := by omega
        have i0 : (0 : Int) ≤ (i : Int) := by omega
        clear hx
        go_wp2_with (fail)
        go_loopw [9, 10] (fun kv u wr => ∃ (j : Nat), kv = .int .i64 ((L.take j).count x : Nat) ∧ u = .int .i64 j ∧ j ≤ n ∧ Hid (Only [] W wr)) (fun _ u _ => n - (intOf u).toNat)
        case atStart => exact ⟨0, rfl, rfl, Nat.zero_le _, HO⟩
        case round =>
          clear HO
          obtain ⟨j, rfl, rfl, hj, HO⟩ := hrel
          have hcl : (L.take j).count x ≤ n := Nat.le_trans List.count_le_length (by rw [List.length_take, HN.out]; omega)
          by_cases hlj : j < n
          · obtain ⟨y, hy⟩ := at_some (L := L) (i := j) (by rw [HN.out]; exact hlj)
            have hrow := HL.out.only (HOO.out.trans HO.out (by simp))
            obtain ⟨p, po, rfl, pl, cx0⟩ := rowI hrow HX.out
            obtain ⟨p', po', hpp, -, cy0⟩ := rowI hrow hy
            cases hpp
            have j1 : (j : Int) < (n : Int) := by omega
            have j0 : (0 : Int) ≤ (j : Int) := by omega
            have HT := Lib.hid (show (L.take (j + 1)).count x = (L.take j).count x + if (y == x) = true then 1 else 0 by
              rw [take_succ_of hy, List.count_append, List.count_singleton])
            clear hrow hy
            by_cases hxy : y = x
            · have e1 : (y == x) = true := by simpa using hxy
              have HE := Lib.hid e1
              clear hxy
              go_wp2_with (fail)
              go_quiet (fail)
              generalize hW : wr.drewN _ = W1
              have HO1 := Lib.hid (show Only [] W W1 by rw [← hW]; exact HO.out.drewN _)
              clear hW cx0 cy0
              go_wp2_with (fail)
              go_roundw
              case rel => exact ⟨j + 1, by rw [HT.out, if_pos HE.out]; go_num, by go_num, by omega, HO1⟩
              case measure => simp [intOf]; omega
            · have e1 : (y == x) = false := by simpa using hxy
              have HE := Lib.hid e1
              clear hxy
              go_wp2_with (fail)
              go_quiet (fail)
              generalize hW : wr.drewN _ = W1
              have HO1 := Lib.hid (show Only [] W W1 by rw [← hW]; exact HO.out.drewN _)
              clear hW cx0 cy0
              go_wp2_with (fail)
              go_roundw
              case rel => exact ⟨j + 1, by rw [HT.out, if_neg (by rw [HE.out]; decide)]; rfl, by go_num, by omega, HO1⟩
              case measure => simp [intOf]; omega
          · have hje : j = n := by omega
            rw [hje, List.take_of_length_le (by rw [HN.out]; exact Nat.le_refl _)] at hcl ⊢
            clear hje hlj hj
            have C := countI (HBW.out.keep HO.out) x (by rw [HSL.out]; omega)
            rw [show keyI x = x from rfl, behind_ahead, st_count] at C
            generalize L.count x = c at C hcl
            obtain ⟨p, po, rfl, pl, cx0⟩ := rowI (HL.out.only (HOO.out.trans HO.out (by simp))) HX.out
            have HC := Lib.hid C
            have hx2 : ¬ (n : Int) < (n : Int) := by omega
            have e0 : ((c : Int) != (c : Int)) = false := by simp
            clear C
            go_wp2_with (fail)
            refine HC.out.mono ?_
            clear HC cx0
            rintro e w2 ⟨rfl, o2⟩
            have HO2 := Lib.hid (HO.out.trans o2 (by simp))
            clear o2
            go_wp2_with (fail)
            go_roundw
            case rel => exact ⟨i + 1, by go_num, by omega, HO2⟩
            case measure => simp [intOf]; omega
      · have hie : i = n := by omega
        have iz1 : ¬ (n : Int) < (n : Int) := by omega
        have e0 : ((n : Int) == (n : Int)) = true := by simp
        have hn5 := HO.out.blk HNB.out (by simp)
        have hr5 := HO.out.blk HRB.out (by simp)
        obtain ⟨n0, nl⟩ := hn5.facts1
        obtain ⟨r0, rl⟩ := hr5.facts1
        have fr := hr5.frozen 0
        have HR5 := Lib.hid hr5
        have HD5 := Lib.hid ((HO.out.block D (Array.getElem?_eq_some_iff.1 HD.out).1 (by simp)).trans HD.out)
        have HO5 := Lib.hid (HOO.out.trans HO.out (by simp))
        rw [hie]
        clear hie hi hlt hn5 hr5
        go_wp2_with (fail)
        have hr2 := HR5.out.set_ 0 (.bool true)
        have hO2 := HO5.out.setCell (p := ⟨rb, 0, none⟩) (.inr (by have := HWB.out; simp; omega)) (.bool true)
        have hK3 := ((only_setCell wo ⟨rb, 0, none⟩ (.bool true)).block D (Array.getElem?_eq_some_iff.1 HD5.out).1 (by simp; omega)).trans HD5.out
        refine ⟨by simp, .inl ⟨_, _, rfl, run_takeDeferred hK3, ?_⟩⟩
        have hk := KeepC.putObj (B := D) (o' := .deferred none) hK3 rfl (Nat.le_refl _)
        obtain ⟨x0, _⟩ := (hk.blk hr2).facts1
        exact ⟨.bool true, by simp [results, Try.results3, go_sem, x0], rfl, hO2.keepC hk (by have := HO9.out.size; omega)⟩
theorem bagsorts_any {A : Option Addr} {cap : Nat} {L : List Int} {w : World} (hL : RowC w A (flat1 L)) (h1 : L.length ≤ 9223372036854775807) :
    Calls Try.prog 3 #[.slice A L.length cap] w fun e w' => e = .returned (.bool true) ∧ Only [] w w' := by
  by_cases hl : 200 < L.length
  · exact sorts_many hl h1
  · exact sorts_few hL (by omega)
end Go.Proofs.Ytpedlapemgjgaaa
