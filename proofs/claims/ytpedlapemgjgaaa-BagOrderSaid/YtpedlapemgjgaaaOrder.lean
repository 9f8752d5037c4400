/- BagOrder: the law's own walk. -/
import Derived.Test.YtpedlapemgjgaaaAwake
namespace Go.Proofs.Ytpedlapemgjgaaa
open Go.RowKit Go.Kx Go.Bag
set_option maxRecDepth 100000
theorem order_many {A At : Option Addr} {cap ct : Nat} {L T : List Int} {z : Int} {w : World} (hl : 200 < L.length ∨ 200 < T.length) (h1 : L.length ≤ 9223372036854775807) (h2 : T.length ≤ 9223372036854775807) :
    Calls Try.prog 4 #[.slice A L.length cap, .slice At T.length ct, .int .u8 z] w fun e w' => e = .returned (.bool true) ∧ Only [] w w' := by
  generalize L.length = n at *
  generalize T.length = m at *
  by_cases hn : 200 < n
  · have hg : decide ((200 : Int) < (n : Int)) = true := by simp; omega
    go_enter Try.func4, Try.ntmps4
    go_wp2_with (fail)
    refine (awake_any _).mono ?_
    rintro e w1 ⟨rfl, o1⟩
    go_wp2_with (fail)
    refine (awake_any _).mono ?_
    rintro e w2 ⟨rfl, o2⟩
    go_wp2_with (fail)
    go_ret
    exact ⟨rfl, o1.trans o2 (by simp)⟩
  · have hg : decide ((200 : Int) < (n : Int)) = false := by simp; omega
    have hg2 : decide ((200 : Int) < (m : Int)) = true := by simp; omega
    go_enter Try.func4, Try.ntmps4
    go_wp2_with (fail)
    refine (awake_any _).mono ?_
    rintro e w1 ⟨rfl, o1⟩
    go_wp2_with (fail)
    refine (awake_any _).mono ?_
    rintro e w2 ⟨rfl, o2⟩
    go_wp2_with (fail)
    go_ret
    exact ⟨rfl, o1.trans o2 (by simp)⟩
theorem st_perm {L M : List Int} (h : L.Perm M) : st keyI L = st keyI M := st_congr (fun k => by
  have e : ∀ N : List Int, N.filter (fun x => keyI x == k) = List.replicate (N.count k) k := fun N => List.filter_beq (l := N) k
  rw [e L, e M, h.count_eq])
theorem merge_perm {L M : List Int} (h : M.Perm L) (k : Nat) : st keyI (st keyI (M.take k) ++ st keyI (M.drop k)) = st keyI L ∧ st keyI (st keyI (M.drop k) ++ st keyI (M.take k)) = st keyI L := by
  constructor
  · rw [st_app2, st_app, List.take_append_drop, st_perm h]
  · rw [st_app2, st_app]
    exact st_perm ((List.perm_append_comm.trans (by rw [List.take_append_drop])).trans h)
theorem st_lenI (L : List Int) : (st keyI L).length = L.length := st_len L
theorem tmod_nat (i n : Nat) : ((i : Int)).tmod (n : Int) = ((i % n : Nat) : Int) := by
  rw [Int.tmod_eq_emod_of_nonneg (by omega)]
  omega
theorem swap_perm {M : List Int} {a b : Nat} {x y : Int} (ha : M[a]? = some x) (hb : M[b]? = some y) : ((M.set a y).set b x).Perm M := by
  have hal := (List.getElem?_eq_some_iff.1 ha).1
  have hbl := (List.getElem?_eq_some_iff.1 hb).1
  have hax : M[a] = x := (List.getElem?_eq_some_iff.1 ha).2
  have hby : M[b] = y := (List.getElem?_eq_some_iff.1 hb).2
  rw [← hax, ← hby]
  exact List.set_set_perm hal hbl
set_option maxHeartbeats 4000000 in
theorem order_fewN {A At : Option Addr} {cap ct : Nat} {L T : List Int} {z : Int} {w : World} (hL : RowC w A (flat1 L)) (hT : RowC w At (flatU T)) (hT0 : ∀ x ∈ T, 0 ≤ x ∧ x ≤ 255) (hz0 : 0 ≤ z) (hz1 : z ≤ 255) (h1 : L.length ≤ 200) (h2 : T.length ≤ 200) (hn0 : 0 < L.length) :
    Calls Try.prog 4 #[.slice A L.length cap, .slice At T.length ct, .int .u8 z] w fun e w' => e = .returned (.bool true) ∧ Only [] w w' := by
  obtain ⟨n, hn⟩ : ∃ n, L.length = n := ⟨_, rfl⟩
  obtain ⟨m, hm⟩ : ∃ m, T.length = m := ⟨_, rfl⟩
  rw [hn] at h1 hn0 ⊢
  rw [hm] at h2 ⊢
  have HN := Lib.hid hn
  have HM := Lib.hid hm
  have HL := Lib.hid hL
  have HT := Lib.hid hT
  have HT0 := Lib.hid hT0
  clear hn hm hL hT hT0
  have hg : decide ((200 : Int) < (n : Int)) = false := by simp; omega
  have hg2 : decide ((200 : Int) < (m : Int)) = false := by simp; omega
  go_enter Try.func4, Try.ntmps4
  go_wp2_with (fail)
  refine (awake_any _).mono ?_
  rintro e w1 ⟨rfl, o1⟩
  have hown0 : (w1.alloc (.cells #[] 3)).ownsRow w1.heap.size 3 1 (.slice (some ⟨w1.heap.size, 0, none⟩) 0 0) 0 [] :=
      ⟨rfl, .inr ⟨w1.heap.size, 0, #[], rfl, Nat.le_refl _, Blk.new _ _ _, Nat.le_refl _, by simp [maxLen], rfl, rfl⟩⟩
  have o2 : Only [] w1 (w1.alloc (.cells #[] 3)) := (Only.refl _ _).alloc _
  obtain ⟨Am, cm, w3, hr, ho, hg3, -⟩ := run_append_rowC (P := Try.prog) (t := 22) (e := 3) (c := cap) (m := n) 22 (by omega) Try.underlying22 int_info rfl hown0 ((HL.out.only o1).only o2) (flat1_one L) (by rw [len_flat1, HN.out]) (by simp) (by unfold maxLen; omega) (by omega)
  rw [Nat.zero_add] at hr ho
  rw [List.nil_append] at ho
  have HO3 := Lib.hid (show Only [] w w3 from o1.trans ((o2).trans hg3 (fun x hx => .inr (by simp [Value.ownBlock] at hx; omega))) (by simp))
  have HW3 := Lib.hid (own_base ho o1.size)
  clear o1 o2 ho hg3 hown0 hg hg2
  go_wp2_with (at_builtin; refine wpList_append_run hr rfl _ _ rfl rfl rfl rfl ?_)
  clear hr
  go_loopw [8] (fun u wr => ∃ (i : Nat) (M : List Int), u = .int .i64 i ∧ i ≤ m ∧ Hid (M.Perm L) ∧ Hid (wr.ownsRow w.heap.size 3 1 (.slice Am n cm) n (flat1 M)) ∧ Hid (Only [] w wr)) (fun u _ => m - (intOf u).toNat)
  case atStart => exact ⟨0, L, rfl, Nat.zero_le _, Lib.hid (List.Perm.refl _), HW3, HO3⟩
  case round =>
    clear HW3 HO3
    obtain ⟨i, M, rfl, hi, HP, HW, HO⟩ := hrel
    have hML : M.length = n := by rw [HP.out.length_eq, HN.out]
    by_cases hlt : i < m ∧ 0 < n
    · obtain ⟨hlt, hn0⟩ := hlt
      obtain ⟨u, hu⟩ := at_some (L := T) (i := i) (by rw [HM.out]; exact hlt)
      obtain ⟨hu0, hu1⟩ := HT0.out u (List.mem_of_getElem? hu)
      obtain ⟨ub, uo, rfl, ul, cu⟩ := rowU (HT.out.only HO.out) hu
      obtain ⟨un, rfl⟩ : ∃ un : Nat, u = (un : Int) := ⟨u.toNat, by omega⟩
      have ha := tmod_nat i n
      have hb := tmod_nat un n
      have hal : i % n < n := Nat.mod_lt _ hn0
      have hbl : un % n < n := Nat.mod_lt _ hn0
      generalize i % n = a at *
      generalize un % n = b at *
      have i0 : (0 : Int) ≤ (i : Int) := by omega
      have i1 : (i : Int) < (m : Int) := by omega
      have i2 : (i : Int).toNat = i := by omega
      have n0 : (0 : Int) < (n : Int) := by omega
      have n1 : ((n : Int) == 0) = false := beq_eq_false_iff_ne.2 (by omega)
      have n2 : ¬ (n : Int) = 0 := by omega
      go_wp2_with (fail)
      go_quiet (fail)
      generalize hW : wr.drewN _ = W1
      have oW : Only [] wr W1 := by rw [← hW]; exact (Only.refl _ _).drewN _
      clear hW cu
      have how := ownsRow_only oW HW.out (fun _ _ => by simp)
      obtain ⟨x, hx⟩ := at_some (L := M) (i := a) (by rw [hML]; exact hal)
      obtain ⟨y, hy⟩ := at_some (L := M) (i := b) (by rw [hML]; exact hbl)
      obtain ⟨q, rfl, hq, hqb, cx⟩ := own_cell1 hML.symm how hx
      obtain ⟨q', hqq, -, -, cy⟩ := own_cell1 hML.symm how hy
      cases hqq
      have fa := own_frozen how a
      have fb := own_frozen how b
      have how2 := own1_set (j := a) (u := .int .i64 y) how
      rw [← flat1_set] at how2
      obtain ⟨y2, hy2⟩ := at_some (L := M.set a y) (i := b) (by rw [List.length_set, hML]; exact hbl)
      obtain ⟨q2, hqq, -, -, cy2⟩ := own_cell1 (by rw [List.length_set]; exact hML.symm) how2 hy2
      cases hqq
      have fb2 := own_frozen how2 b
      clear how2 hy2
      have HNS := Lib.hid (own1_set (j := b) (u := .int .i64 x) (own1_set (j := a) (u := .int .i64 y) how))
      rw [← flat1_set, ← flat1_set] at HNS
      have HP2 := Lib.hid ((swap_perm hx hy).trans HP.out)
      have HO2 := Lib.hid (show Only [] w ((W1.setCell ⟨q, a, none⟩ (.int .i64 y)).setCell ⟨q, b, none⟩ (.int .i64 x)) from ((HO.out.trans oW (by simp)).setCell (.inr hqb) _).setCell (.inr hqb) _)
      have a0 : (0 : Int) ≤ (a : Int) := by omega
      have b0 : (0 : Int) ≤ (b : Int) := by omega
      have a1 : (a : Int) < (n : Int) := by omega
      have b1 : (b : Int) < (n : Int) := by omega
      clear how oW hx hy HW HP hu hu0 hu1 ha hb i1
      go_wp2_with (fail)
      go_roundw
      case rel => exact ⟨i + 1, _, by go_num, by omega, HP2, HNS, HO2⟩
      case measure => simp [intOf]; omega
    · rcases own_form HW.out with ⟨_, h, _⟩ | ⟨⟨qm, rfl⟩, hncm⟩
      · omega
      have HRW := Lib.hid (own_rowC (by rw [len_flat1, hML]) HW.out)
      have hlt2 : i < m → False := fun h => hlt ⟨h, hn0⟩
      have him : i = m := by omega
      subst him
      clear hlt hlt2
      have hx : ¬ (i : Int) < (i : Int) := by omega
      have n00 : (0 : Int) < (n : Int) := by omega
      go_wp2_with (fail)
      refine (newI (cl := cap) (HL.out.only HO.out) HN.out (by omega)).mono ?_
      rintro e w4 ⟨rfl, ⟨Ax, cx, hb4⟩, o4⟩
      obtain ⟨gx, hgx⟩ : ∃ gx, wr.heap.size = gx := ⟨_, rfl⟩
      rw [hgx] at hb4 ⊢
      have HX4 := Lib.hid (hb4.base (Nat.zero_le _))
      have HO4 := Lib.hid (HO.out.trans o4 (by simp))
      have HW4 := Lib.hid (HRW.out.only o4)
      clear hb4 o4 HW HO hgx HRW
      go_wp2_with (fail)
      refine (newI (cl := cm) HW4.out hML (by omega)).mono ?_
      rintro e w5 ⟨rfl, ⟨Ay, cy, hb5⟩, o5⟩
      obtain ⟨gy, hgy⟩ : ∃ gy, w4.heap.size = gy := ⟨_, rfl⟩
      rw [hgy, st_perm HP.out] at hb5
      rw [hgy]
      have HX5 := Lib.hid (HX4.out.keep o5)
      have HY5 := Lib.hid (hb5.base (Nat.zero_le _))
      have HO5 := Lib.hid (HO4.out.trans o5 (by simp))
      have HW5 := Lib.hid (HW4.out.only o5)
      clear hb5 o5 HX4 HO4 HW4 hgy
      obtain ⟨zn, rfl⟩ : ∃ zn : Nat, z = (zn : Int) := ⟨z.toNat, by omega⟩
      have hzk := tmod_nat zn n
      have hkn : zn % n < n := Nat.mod_lt _ hn0
      generalize zn % n = k at *
      have n0 : (0 : Int) < (n : Int) := by omega
      have n2 : ¬ (n : Int) = 0 := by omega
      have k0 : (0 : Int) ≤ (k : Int) := by omega
      have k1 : (k : Int) ≤ (n : Int) := by omega
      have k2 : (k : Int) ≤ (cm : Int) := by omega
      have hce : ¬ cm = k := by omega
      go_wp2_with (fail)
      have hra := HW5.out.take (k * 1)
      rw [Nat.mul_one, flat1_take] at hra
      refine (newI (cl := cm) hra (nl := k) (by rw [List.length_take, hML]; omega) (by omega)).mono ?_
      rintro e w6 ⟨rfl, ⟨Aa, ca, hb6⟩, o6⟩
      clear hra
      obtain ⟨ga, hga⟩ : ∃ ga, w5.heap.size = ga := ⟨_, rfl⟩
      rw [hga] at hb6 ⊢
      have HX6 := Lib.hid (HX5.out.keep o6)
      have HY6 := Lib.hid (HY5.out.keep o6)
      have HA6 := Lib.hid (hb6.base (Nat.zero_le _))
      have HO6 := Lib.hid (HO5.out.trans o6 (by simp))
      have HW6 := Lib.hid (HW5.out.only o6)
      clear hb6 o6 HX5 HY5 HO5 HW5 hga
      go_wp2_with (fail)
      have hrd := HW6.out.drop (k * 1)
      rw [Nat.mul_one, Nat.zero_add, flat1_drop] at hrd
      clear hzk
      refine (newI (cl := (cm - k)) hrd (nl := (n - k)) (by rw [List.length_drop, hML]) (by omega)).mono ?_
      rintro e w7 ⟨rfl, ⟨Ab, cb, hb7⟩, o7⟩
      clear hrd
      obtain ⟨gb, hgb⟩ : ∃ gb, w6.heap.size = gb := ⟨_, rfl⟩
      rw [hgb] at hb7 ⊢
      have HX7 := Lib.hid (HX6.out.keep o7)
      have HY7 := Lib.hid (HY6.out.keep o7)
      have HA7 := Lib.hid (HA6.out.keep o7)
      have HB7 := Lib.hid (hb7.base (Nat.zero_le _))
      have HO7 := Lib.hid (HO6.out.trans o7 (by simp))
      clear hb7 o7 HX6 HY6 HA6 HO6 HW6 hgb
      have HLS := Lib.hid (show (st keyI L).length = n by rw [st_lenI, HN.out])
      have HLA := Lib.hid (show (st keyI (M.take k)).length = k by rw [st_lenI, List.length_take, hML]; omega)
      have HLB := Lib.hid (show (st keyI (M.drop k)).length = n - k by rw [st_lenI, List.length_drop, hML])
      have HMP := Lib.hid (merge_perm HP.out k)
      have hnk : k + (n - k) ≤ 200 := by omega
      go_wp2_with (fail)
      have C := sameI HX7.out HY7.out (by rw [HLS.out]; omega) (by rw [HLS.out]; omega)
      rw [decide_eq_true rfl] at C
      refine C.mono ?_
      clear C
      rintro e w8 ⟨rfl, o8⟩
      have HX8 := Lib.hid (HX7.out.keep o8)
      have HY8 := Lib.hid (HY7.out.keep o8)
      have HA8 := Lib.hid (HA7.out.keep o8)
      have HB8 := Lib.hid (HB7.out.keep o8)
      have HO8 := Lib.hid (HO7.out.trans o8 (by simp))
      clear o8 HX7 HY7 HA7 HB7 HO7
      go_wp2_with (fail)
      refine (mergeI HA8.out HB8.out (by rw [HLA.out, HLB.out]; omega)).mono ?_
      rintro e w9 ⟨gm, Am1, cm1, rfl, -, hb9, o9⟩
      rw [HMP.out.1] at hb9
      have C := sameI (HX8.out.keep o9) hb9 (by rw [HLS.out]; omega) (by rw [HLS.out]; omega)
      rw [decide_eq_true rfl] at C
      have HC := Lib.hid C
      have HX9 := Lib.hid (HX8.out.keep o9)
      have HY9 := Lib.hid (HY8.out.keep o9)
      have HA9 := Lib.hid (HA8.out.keep o9)
      have HB9 := Lib.hid (HB8.out.keep o9)
      have HO9 := Lib.hid (HO8.out.trans o9 (by simp))
      clear C hb9 o9 HX8 HY8 HA8 HB8 HO8
      go_wp2_with (fail)
      refine HC.out.mono ?_
      clear HC
      rintro e w10 ⟨rfl, o10⟩
      have HX10 := Lib.hid (HX9.out.keep o10)
      have HY10 := Lib.hid (HY9.out.keep o10)
      have HA10 := Lib.hid (HA9.out.keep o10)
      have HB10 := Lib.hid (HB9.out.keep o10)
      have HO10 := Lib.hid (HO9.out.trans o10 (by simp))
      clear o10 HX9 HY9 HA9 HB9 HO9
      go_wp2_with (fail)
      refine (mergeI HB10.out HA10.out (by rw [HLA.out, HLB.out]; omega)).mono ?_
      rintro e w11 ⟨gm, Am1, cm1, rfl, -, hb11, o11⟩
      rw [HMP.out.2] at hb11
      have C := sameI hb11 (HY10.out.keep o11) (by rw [HLS.out]; omega) (by rw [HLS.out]; omega)
      rw [decide_eq_true rfl] at C
      have HC := Lib.hid C
      have HX11 := Lib.hid (HX10.out.keep o11)
      have HO11 := Lib.hid (HO10.out.trans o11 (by simp))
      clear C hb11 o11 HX10 HY10 HA10 HB10 HO10
      go_wp2_with (fail)
      refine HC.out.mono ?_
      clear HC
      rintro e w12 ⟨rfl, o12⟩
      have C := lenI (HX11.out.keep o12)
      rw [HLS.out] at C
      have HO12 := Lib.hid (HO11.out.trans o12 (by simp))
      have HC := Lib.hid C
      clear C o12 HX11 HO11
      go_wp2_with (fail)
      refine HC.out.mono ?_
      clear HC
      rintro e w13 ⟨rfl, rfl⟩
      go_wp2_with (fail)
      go_ret
      exact ⟨rfl, HO12.out⟩
theorem append_none (p : Addr) (A : Option Addr) (c : Nat) (W : World) : (Builtin.append_ #[22, 22] 22 #[.slice (some p) 0 0, .slice A 0 c]).run Try.prog W = .ok (.slice (some p) 0 0) W := by
  obtain ⟨i, hi, h0, h1, h2⟩ := info_parts int_info
  cases A <;> simp [Builtin.append_, run_underlying Try.underlying22, sizeOf, typeInfo, hi, Builtin.lenOf, Builtin.firstCells, storeCells, loadCells, loadCellsFrom]
set_option maxHeartbeats 4000000 in
theorem order_few0 {A At : Option Addr} {cap ct : Nat} {T : List Int} {z : Int} {w : World} (h2 : T.length ≤ 200) :
    Calls Try.prog 4 #[.slice A 0 cap, .slice At T.length ct, .int .u8 z] w fun e w' => e = .returned (.bool true) ∧ Only [] w w' := by
  obtain ⟨m, hm⟩ : ∃ m, T.length = m := ⟨_, rfl⟩
  rw [hm] at h2 ⊢
  clear hm
  obtain ⟨L, hL⟩ : ∃ L : List Int, L = [] := ⟨[], rfl⟩
  have HL := Lib.hid (show RowC w A (flat1 L) by rw [hL]; exact RowC.nil _ _)
  have HN := Lib.hid (show L.length = 0 by rw [hL]; rfl)
  obtain ⟨n, hn⟩ : ∃ n, n = 0 := ⟨0, rfl⟩
  clear hL
  have hg2 : decide ((200 : Int) < (m : Int)) = false := by simp; omega
  go_enter Try.func4, Try.ntmps4
  go_wp2_with (fail)
  refine (awake_any _).mono ?_
  rintro e w1 ⟨rfl, o1⟩
  have hr := append_none ⟨w1.heap.size, 0, none⟩ A cap (w1.alloc (.cells #[] 3))
  have HO3 := Lib.hid (show Only [] w (w1.alloc (.cells #[] 3)) from o1.alloc _)
  clear o1 hg2
  go_wp2_with (at_builtin; refine wpList_append_run hr rfl _ _ rfl rfl rfl rfl ?_)
  clear hr
  generalize w1.alloc (.cells #[] 3) = w3 at HO3 ⊢
  generalize w1.heap.size = qm
  go_loopw [8] (fun u wr => u = .int .i64 0 ∧ Hid (Only [] w wr)) (fun u _ => 0)
  case atStart => exact ⟨rfl, HO3⟩
  case round =>
    clear HO3
    obtain ⟨rfl, HO⟩ := hrel
    obtain ⟨M, hM⟩ : ∃ M : List Int, M = L := ⟨L, rfl⟩
    have HP := Lib.hid (show M.Perm L by rw [hM])
    have hML : M.length = 0 := by rw [hM, HN.out]
    have HRW := Lib.hid (show RowC wr (some ⟨qm, 0, none⟩) (flat1 M) by rw [List.length_eq_zero_iff.1 hML]; exact RowC.nil _ _)
    have HW := HO
    clear hM
    rcases Nat.eq_zero_or_pos m with hm0 | hm0
    · have hp : ¬ 0 < m := by omega
      go_wp2_with (fail)
      refine (newI (cl := cap) (HL.out.only HO.out) HN.out (by omega)).mono ?_
      rintro e w4 ⟨rfl, ⟨Ax, cx, hb4⟩, o4⟩
      obtain ⟨gx, hgx⟩ : ∃ gx, wr.heap.size = gx := ⟨_, rfl⟩
      rw [hgx] at hb4 ⊢
      have HX4 := Lib.hid (hb4.base (Nat.zero_le _))
      have HO4 := Lib.hid (HO.out.trans o4 (by simp))
      have HW4 := Lib.hid (HRW.out.only o4)
      clear hb4 o4 HW HO hgx HRW
      go_wp2_with (fail)
      refine (newI (cl := 0) HW4.out hML (by omega)).mono ?_
      rintro e w5 ⟨rfl, ⟨Ay, cy, hb5⟩, o5⟩
      obtain ⟨gy, hgy⟩ : ∃ gy, w4.heap.size = gy := ⟨_, rfl⟩
      rw [hgy, st_perm HP.out] at hb5
      rw [hgy]
      have HX5 := Lib.hid (HX4.out.keep o5)
      have HY5 := Lib.hid (hb5.base (Nat.zero_le _))
      have HO5 := Lib.hid (HO4.out.trans o5 (by simp))
      have HW5 := Lib.hid (HW4.out.only o5)
      clear hb5 o5 HX4 HO4 HW4 hgy
      obtain ⟨k, hk0⟩ : ∃ k, k = 0 := ⟨0, rfl⟩
      have HK0 := Lib.hid hk0
      clear hk0
      go_wp2_with (fail)
      have hra := HW5.out.take (k * 1)
      rw [Nat.mul_one, flat1_take] at hra
      refine (newI (cl := 0) hra (nl := 0) (by rw [List.length_take, hML, HK0.out]; try omega) (by omega)).mono ?_
      rintro e w6 ⟨rfl, ⟨Aa, ca, hb6⟩, o6⟩
      clear hra
      obtain ⟨ga, hga⟩ : ∃ ga, w5.heap.size = ga := ⟨_, rfl⟩
      rw [hga] at hb6 ⊢
      have HX6 := Lib.hid (HX5.out.keep o6)
      have HY6 := Lib.hid (HY5.out.keep o6)
      have HA6 := Lib.hid (hb6.base (Nat.zero_le _))
      have HO6 := Lib.hid (HO5.out.trans o6 (by simp))
      have HW6 := Lib.hid (HW5.out.only o6)
      clear hb6 o6 HX5 HY5 HO5 HW5 hga
      go_wp2_with (fail)
      have hrd : RowC w6 (some ⟨qm, 0, none⟩) (flat1 (M.drop k)) := by rw [List.drop_of_length_le (by rw [hML]; exact Nat.zero_le _)]; exact RowC.nil _ _
      refine (newI (cl := 0) hrd (nl := 0) (by rw [List.length_drop, hML, HK0.out]) (by omega)).mono ?_
      rintro e w7 ⟨rfl, ⟨Ab, cb, hb7⟩, o7⟩
      clear hrd
      obtain ⟨gb, hgb⟩ : ∃ gb, w6.heap.size = gb := ⟨_, rfl⟩
      rw [hgb] at hb7 ⊢
      have HX7 := Lib.hid (HX6.out.keep o7)
      have HY7 := Lib.hid (HY6.out.keep o7)
      have HA7 := Lib.hid (HA6.out.keep o7)
      have HB7 := Lib.hid (hb7.base (Nat.zero_le _))
      have HO7 := Lib.hid (HO6.out.trans o7 (by simp))
      clear hb7 o7 HX6 HY6 HA6 HO6 HW6 hgb
      have HLS := Lib.hid (show (st keyI L).length = 0 by rw [st_lenI, HN.out])
      have HLA := Lib.hid (show (st keyI (M.take k)).length = 0 by rw [st_lenI, List.length_take, hML, HK0.out]; try omega)
      have HLB := Lib.hid (show (st keyI (M.drop k)).length = 0 by rw [st_lenI, List.length_drop, hML, HK0.out])
      have HMP := Lib.hid (merge_perm HP.out k)
      have hnk : (0 : Nat) ≤ 200 := by omega
      go_wp2_with (fail)
      have C := sameI HX7.out HY7.out (by rw [HLS.out]; omega) (by rw [HLS.out]; omega)
      rw [decide_eq_true rfl] at C
      refine C.mono ?_
      clear C
      rintro e w8 ⟨rfl, o8⟩
      have HX8 := Lib.hid (HX7.out.keep o8)
      have HY8 := Lib.hid (HY7.out.keep o8)
      have HA8 := Lib.hid (HA7.out.keep o8)
      have HB8 := Lib.hid (HB7.out.keep o8)
      have HO8 := Lib.hid (HO7.out.trans o8 (by simp))
      clear o8 HX7 HY7 HA7 HB7 HO7
      go_wp2_with (fail)
      refine (mergeI HA8.out HB8.out (by rw [HLA.out, HLB.out]; omega)).mono ?_
      rintro e w9 ⟨gm, Am1, cm1, rfl, -, hb9, o9⟩
      rw [HMP.out.1] at hb9
      have C := sameI (HX8.out.keep o9) hb9 (by rw [HLS.out]; omega) (by rw [HLS.out]; omega)
      rw [decide_eq_true rfl] at C
      have HC := Lib.hid C
      have HX9 := Lib.hid (HX8.out.keep o9)
      have HY9 := Lib.hid (HY8.out.keep o9)
      have HA9 := Lib.hid (HA8.out.keep o9)
      have HB9 := Lib.hid (HB8.out.keep o9)
      have HO9 := Lib.hid (HO8.out.trans o9 (by simp))
      clear C hb9 o9 HX8 HY8 HA8 HB8 HO8
      go_wp2_with (fail)
      refine HC.out.mono ?_
      clear HC
      rintro e w10 ⟨rfl, o10⟩
      have HX10 := Lib.hid (HX9.out.keep o10)
      have HY10 := Lib.hid (HY9.out.keep o10)
      have HA10 := Lib.hid (HA9.out.keep o10)
      have HB10 := Lib.hid (HB9.out.keep o10)
      have HO10 := Lib.hid (HO9.out.trans o10 (by simp))
      clear o10 HX9 HY9 HA9 HB9 HO9
      go_wp2_with (fail)
      refine (mergeI HB10.out HA10.out (by rw [HLA.out, HLB.out]; omega)).mono ?_
      rintro e w11 ⟨gm, Am1, cm1, rfl, -, hb11, o11⟩
      rw [HMP.out.2] at hb11
      have C := sameI hb11 (HY10.out.keep o11) (by rw [HLS.out]; omega) (by rw [HLS.out]; omega)
      rw [decide_eq_true rfl] at C
      have HC := Lib.hid C
      have HX11 := Lib.hid (HX10.out.keep o11)
      have HO11 := Lib.hid (HO10.out.trans o11 (by simp))
      clear C hb11 o11 HX10 HY10 HA10 HB10 HO10
      go_wp2_with (fail)
      refine HC.out.mono ?_
      clear HC
      rintro e w12 ⟨rfl, o12⟩
      have C := lenI (HX11.out.keep o12)
      rw [HLS.out] at C
      have HO12 := Lib.hid (HO11.out.trans o12 (by simp))
      have HC := Lib.hid C
      clear C o12 HX11 HO11
      go_wp2_with (fail)
      refine HC.out.mono ?_
      clear HC
      rintro e w13 ⟨rfl, rfl⟩
      go_wp2_with (fail)
      go_ret
      exact ⟨rfl, HO12.out⟩
    · have hp : 0 < m := hm0
      go_wp2_with (fail)
      refine (newI (cl := cap) (HL.out.only HO.out) HN.out (by omega)).mono ?_
      rintro e w4 ⟨rfl, ⟨Ax, cx, hb4⟩, o4⟩
      obtain ⟨gx, hgx⟩ : ∃ gx, wr.heap.size = gx := ⟨_, rfl⟩
      rw [hgx] at hb4 ⊢
      have HX4 := Lib.hid (hb4.base (Nat.zero_le _))
      have HO4 := Lib.hid (HO.out.trans o4 (by simp))
      have HW4 := Lib.hid (HRW.out.only o4)
      clear hb4 o4 HW HO hgx HRW
      go_wp2_with (fail)
      refine (newI (cl := 0) HW4.out hML (by omega)).mono ?_
      rintro e w5 ⟨rfl, ⟨Ay, cy, hb5⟩, o5⟩
      obtain ⟨gy, hgy⟩ : ∃ gy, w4.heap.size = gy := ⟨_, rfl⟩
      rw [hgy, st_perm HP.out] at hb5
      rw [hgy]
      have HX5 := Lib.hid (HX4.out.keep o5)
      have HY5 := Lib.hid (hb5.base (Nat.zero_le _))
      have HO5 := Lib.hid (HO4.out.trans o5 (by simp))
      have HW5 := Lib.hid (HW4.out.only o5)
      clear hb5 o5 HX4 HO4 HW4 hgy
      obtain ⟨k, hk0⟩ : ∃ k, k = 0 := ⟨0, rfl⟩
      have HK0 := Lib.hid hk0
      clear hk0
      go_wp2_with (fail)
      have hra := HW5.out.take (k * 1)
      rw [Nat.mul_one, flat1_take] at hra
      refine (newI (cl := 0) hra (nl := 0) (by rw [List.length_take, hML, HK0.out]; try omega) (by omega)).mono ?_
      rintro e w6 ⟨rfl, ⟨Aa, ca, hb6⟩, o6⟩
      clear hra
      obtain ⟨ga, hga⟩ : ∃ ga, w5.heap.size = ga := ⟨_, rfl⟩
      rw [hga] at hb6 ⊢
      have HX6 := Lib.hid (HX5.out.keep o6)
      have HY6 := Lib.hid (HY5.out.keep o6)
      have HA6 := Lib.hid (hb6.base (Nat.zero_le _))
      have HO6 := Lib.hid (HO5.out.trans o6 (by simp))
      have HW6 := Lib.hid (HW5.out.only o6)
      clear hb6 o6 HX5 HY5 HO5 HW5 hga
      go_wp2_with (fail)
      have hrd : RowC w6 (some ⟨qm, 0, none⟩) (flat1 (M.drop k)) := by rw [List.drop_of_length_le (by rw [hML]; exact Nat.zero_le _)]; exact RowC.nil _ _
      refine (newI (cl := 0) hrd (nl := 0) (by rw [List.length_drop, hML, HK0.out]) (by omega)).mono ?_
      rintro e w7 ⟨rfl, ⟨Ab, cb, hb7⟩, o7⟩
      clear hrd
      obtain ⟨gb, hgb⟩ : ∃ gb, w6.heap.size = gb := ⟨_, rfl⟩
      rw [hgb] at hb7 ⊢
      have HX7 := Lib.hid (HX6.out.keep o7)
      have HY7 := Lib.hid (HY6.out.keep o7)
      have HA7 := Lib.hid (HA6.out.keep o7)
      have HB7 := Lib.hid (hb7.base (Nat.zero_le _))
      have HO7 := Lib.hid (HO6.out.trans o7 (by simp))
      clear hb7 o7 HX6 HY6 HA6 HO6 HW6 hgb
      have HLS := Lib.hid (show (st keyI L).length = 0 by rw [st_lenI, HN.out])
      have HLA := Lib.hid (show (st keyI (M.take k)).length = 0 by rw [st_lenI, List.length_take, hML, HK0.out]; try omega)
      have HLB := Lib.hid (show (st keyI (M.drop k)).length = 0 by rw [st_lenI, List.length_drop, hML, HK0.out])
      have HMP := Lib.hid (merge_perm HP.out k)
      have hnk : (0 : Nat) ≤ 200 := by omega
      go_wp2_with (fail)
      have C := sameI HX7.out HY7.out (by rw [HLS.out]; omega) (by rw [HLS.out]; omega)
      rw [decide_eq_true rfl] at C
      refine C.mono ?_
      clear C
      rintro e w8 ⟨rfl, o8⟩
      have HX8 := Lib.hid (HX7.out.keep o8)
      have HY8 := Lib.hid (HY7.out.keep o8)
      have HA8 := Lib.hid (HA7.out.keep o8)
      have HB8 := Lib.hid (HB7.out.keep o8)
      have HO8 := Lib.hid (HO7.out.trans o8 (by simp))
      clear o8 HX7 HY7 HA7 HB7 HO7
      go_wp2_with (fail)
      refine (mergeI HA8.out HB8.out (by rw [HLA.out, HLB.out]; omega)).mono ?_
      rintro e w9 ⟨gm, Am1, cm1, rfl, -, hb9, o9⟩
      rw [HMP.out.1] at hb9
      have C := sameI (HX8.out.keep o9) hb9 (by rw [HLS.out]; omega) (by rw [HLS.out]; omega)
      rw [decide_eq_true rfl] at C
      have HC := Lib.hid C
      have HX9 := Lib.hid (HX8.out.keep o9)
      have HY9 := Lib.hid (HY8.out.keep o9)
      have HA9 := Lib.hid (HA8.out.keep o9)
      have HB9 := Lib.hid (HB8.out.keep o9)
      have HO9 := Lib.hid (HO8.out.trans o9 (by simp))
      clear C hb9 o9 HX8 HY8 HA8 HB8 HO8
      go_wp2_with (fail)
      refine HC.out.mono ?_
      clear HC
      rintro e w10 ⟨rfl, o10⟩
      have HX10 := Lib.hid (HX9.out.keep o10)
      have HY10 := Lib.hid (HY9.out.keep o10)
      have HA10 := Lib.hid (HA9.out.keep o10)
      have HB10 := Lib.hid (HB9.out.keep o10)
      have HO10 := Lib.hid (HO9.out.trans o10 (by simp))
      clear o10 HX9 HY9 HA9 HB9 HO9
      go_wp2_with (fail)
      refine (mergeI HB10.out HA10.out (by rw [HLA.out, HLB.out]; omega)).mono ?_
      rintro e w11 ⟨gm, Am1, cm1, rfl, -, hb11, o11⟩
      rw [HMP.out.2] at hb11
      have C := sameI hb11 (HY10.out.keep o11) (by rw [HLS.out]; omega) (by rw [HLS.out]; omega)
      rw [decide_eq_true rfl] at C
      have HC := Lib.hid C
      have HX11 := Lib.hid (HX10.out.keep o11)
      have HO11 := Lib.hid (HO10.out.trans o11 (by simp))
      clear C hb11 o11 HX10 HY10 HA10 HB10 HO10
      go_wp2_with (fail)
      refine HC.out.mono ?_
      clear HC
      rintro e w12 ⟨rfl, o12⟩
      have C := lenI (HX11.out.keep o12)
      rw [HLS.out] at C
      have HO12 := Lib.hid (HO11.out.trans o12 (by simp))
      have HC := Lib.hid C
      clear C o12 HX11 HO11
      go_wp2_with (fail)
      refine HC.out.mono ?_
      clear HC
      rintro e w13 ⟨rfl, rfl⟩
      go_wp2_with (fail)
      go_ret
      exact ⟨rfl, HO12.out⟩
theorem bagorder_any {A At : Option Addr} {cap ct : Nat} {L T : List Int} {z : Int} {w : World} (hL : RowC w A (flat1 L)) (hT : RowC w At (flatU T)) (hT0 : ∀ x ∈ T, 0 ≤ x ∧ x ≤ 255) (hz0 : 0 ≤ z) (hz1 : z ≤ 255) (h1 : L.length ≤ 9223372036854775807) (h2 : T.length ≤ 9223372036854775807) :
    Calls Try.prog 4 #[.slice A L.length cap, .slice At T.length ct, .int .u8 z] w fun e w' => e = .returned (.bool true) ∧ Only [] w w' := by
  by_cases hl : 200 < L.length ∨ 200 < T.length
  · exact order_many hl h1 h2
  · by_cases h0 : 0 < L.length
    · exact order_fewN hL hT hT0 hz0 hz1 (by omega) (by omega) h0
    · have e : L.length = 0 := by omega
      rw [e]
      exact order_few0 (by omega)
end Go.Proofs.Ytpedlapemgjgaaa
