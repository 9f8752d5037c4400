/- TrackAgain: the law's own walk. -/
import Derived.Test.YtcggeogpanackaaSame
namespace Go.Proofs.Ytcggeogpanackaa
open Go.RowKit Go.Kx
set_option maxRecDepth 100000

theorem again_many {A : Option Addr} {cap : Nat} {L : List St} {s : St} {w : World} (hl : 200 < L.length) (hlen : L.length ≤ 9223372036854775807) :
    Calls Try.prog 5 #[.slice A L.length cap, .agg #[.int .i64 s.1.1, .int .i64 s.1.2, .int .i64 s.2]] w fun e w' => e = .returned (.bool true) ∧ Only [] w w' := by
  have hg : decide ((200 : Int) < (L.length : Int)) = true := by simp; omega
  go_enter Try.func5, Try.ntmps5
  go_wp2_with (fail)
  refine (awake_any _).mono ?_
  rintro e w1 ⟨rfl, o1⟩
  have HO1 := Lib.hid (((Only.refl [] w).alloc _).trans o1 (by simp))
  clear o1
  go_wp2_with (fail)
  refine (awake_any _).mono ?_
  rintro e w2 ⟨rfl, o2⟩
  go_wp2_with (fail)
  go_ret
  exact ⟨rfl, HO1.out.trans o2 (by simp)⟩

set_option maxHeartbeats 4000000 in
theorem again_few {A : Option Addr} {cap : Nat} {L : List St} {s : St} {w : World} (hL : Stamps w A L) (hl : L.length ≤ 200) (oS : s.ok) :
    Calls Try.prog 5 #[.slice A L.length cap, .agg #[.int .i64 s.1.1, .int .i64 s.1.2, .int .i64 s.2]] w fun e w' => e = .returned (.bool true) ∧ Only [] w w' := by
  have hg : decide ((200 : Int) < (L.length : Int)) = false := by simp; omega
  have HL := Lib.hid hL
  clear hL
  go_enter Try.func5, Try.ntmps5
  go_wp2_with (fail)
  refine (awake_any _).mono ?_
  rintro e w4 ⟨rfl, o4⟩
  have K4 := Lib.hid (And.intro (((Only.refl [] w).alloc _).trans o4 (by simp)) (o4.blk (Blk.new w 26 #[.int .i64 s.1.1, .int .i64 s.1.2, .int .i64 s.2]) (by simp)))
  have hs4 := o4.size
  simp at hs4
  clear o4
  go_wp2_with (fail)
  refine (new_any (room := 200) (by decide) (by decide) w4 (B := w4.heap.size) (Nat.le_refl _)).mono ?_
  rintro e w5 ⟨rfl, T5, o5⟩
  have HT := Lib.hid T5
  have K5 := Lib.hid (And.intro (K4.out.1.trans o5 (by simp)) (o5.blk K4.out.2 (by simp)))
  obtain ⟨g, hgd⟩ : ∃ g, w4.heap.size = g := ⟨_, rfl⟩
  rw [hgd] at HT ⊢
  have hgl : w.heap.size < g := by omega
  clear T5 o5 K4 hs4 hgd
  go_wp2_with (fail)
  go_loopw [7, 8] (fun v i wr => ∃ (k : Nat) (A1 : Option Addr) (c1 : Nat) (E : List En) (AP : Option Addr) (cP : Nat), i = .int .i64 k ∧ v = .slice AP E.length cP ∧ k ≤ L.length ∧ E.length ≤ k ∧ Trk E ∧ TB g wr g 200 E A1 c1 ∧ wr.ownsRow g 26 3 (.slice AP E.length cP) E.length (flat3 (E.map (·.1))) ∧ Only [] w wr ∧ Blk wr w.heap.size 26 #[.int .i64 s.1.1, .int .i64 s.1.2, .int .i64 s.2]) (fun _ i _ => L.length - (intOf i).toNat)
  case atStart => exact ⟨0, none, 0, [], none, 0, rfl, rfl, Nat.zero_le _, Nat.le_refl _, Trk.nil, HT.out, World.ownsRow_nil _ _ _ _, K5.out.1, K5.out.2⟩
  case round =>
    clear HT K5
    obtain ⟨k, A1, c1, E, AP, cP, rfl, rfl, hk, hE, hTr, hT, hP, hO, bs⟩ := hrel
    by_cases hlt : k < L.length
    · obtain ⟨os, b1, o1, hA, hb, c0, c1', c2⟩ := (HL.out.only hO) k L[k] (List.getElem?_eq_getElem hlt)
      have hbw : b1 < w.heap.size := by
        obtain ⟨_, b2, o2, hA2, hb2, _⟩ := HL.out k L[k] (List.getElem?_eq_getElem hlt)
        rw [hA] at hA2; cases hA2; exact hb2
      generalize L[k] = q at os c0 c1' c2
      subst hA
      have HT := Lib.hid hT
      have HTr := Lib.hid hTr
      have HP := Lib.hid hP
      have K1 := Lib.hid (And.intro hO bs)
      have HC := Lib.hid (And.intro c0 (And.intro c1' c2))
      clear hT hTr hP hO bs
      go_wp2_with (fail)
      refine (of_any q _).mono ?_
      rintro e w6 ⟨rfl, o6⟩
      have T6 := HT.out.keep o6
      have hsz := T6.blk.lt
      have hp := put_any (s := q) (x := (k : Int)) T6 HTr.out os (by omega) (by omega)
      go_wp2_with (fail)
      refine hp.mono ?_
      clear hp
      rintro e w7 ⟨rfl, A2, c2', T7, o7, -⟩
      have hSg : ∀ y ∈ g :: A1.toList.map (·.block), g ≤ y := T6.above
      have P6 : w6.ownsRow g 26 3 (.slice AP E.length cP) E.length (flat3 (E.map (·.1))) := ownsRow_only o6 HP.out (fun _ _ => by simp)
      have P7 := ownsRow_only o7 P6 (T6.own_other P6 (by decide) (by decide))
      have O7 : Only [] w w7 := (K1.out.1.trans o6 (by simp)).trans o7 (fun y hy => .inr (by have := hSg y hy; omega))
      have S7 := o7.blk (o6.blk K1.out.2 (by simp)) (fun h => by have := hSg _ h; omega)
      have hs6 := o6.size
      have d0 := (o7.cell (p := ⟨b1, o1 + k * 3, none⟩) (by simp; omega) (fun h => by have := hSg _ h; simp at this; omega)).trans ((o6.cell (p := ⟨b1, o1 + k * 3, none⟩) hb (by simp)).trans HC.out.1)
      have d1 := (o7.cell (p := ⟨b1, o1 + k * 3 + 1, none⟩) (by simp; omega) (fun h => by have := hSg _ h; simp at this; omega)).trans ((o6.cell (p := ⟨b1, o1 + k * 3 + 1, none⟩) hb (by simp)).trans HC.out.2.1)
      have d2 := (o7.cell (p := ⟨b1, o1 + k * 3 + 2, none⟩) (by simp; omega) (fun h => by have := hSg _ h; simp at this; omega)).trans ((o6.cell (p := ⟨b1, o1 + k * 3 + 2, none⟩) hb (by simp)).trans HC.out.2.2)
      have HTr7 := Lib.hid (HTr.out.put os (x := (k : Int)) (by unfold I64; omega) 200)
      clear c0 c1' c2 HC
      by_cases hz : putE E 200 q = 0
      · have hpl : putL E 200 q (k : Int) = E ++ [(q, (k : Int))] := by unfold putL; rw [if_pos hz]
        rw [hpl] at T7 HTr7
        rw [hz]
        have hgw7 : g ≤ w7.heap.size := Nat.le_of_lt T7.blk.lt
        obtain ⟨gg, cap2, w8, hrun, P8, o8, hg8⟩ := run_append3 (P := Try.prog) 26 22 Try.underlying22 st_info rfl P7 (.int .i64 q.1.1) (.int .i64 q.1.2) (.int .i64 q.2) rfl rfl rfl hgw7 (by unfold maxLen; omega) (by omega)
        have hnt := T7.own_other P7 (by decide) (by decide)
        have hob : ∀ x ∈ (Value.ownBlock (.slice AP E.length cP)).toList, x ∉ g :: A2.toList.map (·.block) := fun x hx => hnt x (by simpa using hx)
        have T8 := T7.keeps o8 (fun h => hob _ h (by simp)) (fun p hp h => hob _ h (by simp [hp]))
        have hPl := P7.lt
        have O8 : Only [] w w8 := O7.trans o8 (fun x hx => .inr (by have := (hPl x (by simpa using hx)).1; omega))
        have S8 := o8.blk S7 (fun h => by have := (hPl _ (by simpa using h)).1; omega)
        have e1 : (E ++ [(q, (k : Int))]).length = E.length + 1 := by simp
        have e2 : flat3 ((E ++ [(q, (k : Int))]).map (·.1)) = flat3 (E.map (·.1)) ++ [.int .i64 q.1.1, .int .i64 q.1.2, .int .i64 q.2] := by rw [List.map_append]; exact flat3_snoc _ _
        have HT8 := Lib.hid T8
        have HP8 := Lib.hid P8
        have K8 := Lib.hid (And.intro O8 S8)
        have HEE := Lib.hid (And.intro e1 e2)
        clear T6 T7 T8 P6 P7 P8 O7 O8 S7 S8 o6 o7 o8 hg8 hnt hob hPl hSg K1 HT HP HTr e1 e2 hpl
        go_wp2_with (at_builtin; refine wpList_append_run hrun rfl _ _ rfl rfl rfl rfl ?_)
        go_roundw
        case rel => exact ⟨k + 1, A2, c2', E ++ [(q, (k : Int))], some ⟨gg, 0, none⟩, cap2, by go_num, by rw [HEE.out.1], by omega, by rw [HEE.out.1]; omega, HTr7.out, HT8.out, by rw [HEE.out.1, HEE.out.2]; exact HP8.out, K8.out.1, K8.out.2⟩
        case measure => simp [intOf]; omega
      · have hpl : putL E 200 q (k : Int) = E := by unfold putL; rw [if_neg hz]
        rw [hpl] at T7 HTr7
        have hzd : decide (putE E 200 q = 0) = false := by simpa using hz
        have hzb : (putE E 200 q == 0) = false := by simpa using hz
        have HT8 := Lib.hid T7
        have HP8 := Lib.hid P7
        have K8 := Lib.hid (And.intro O7 S7)
        clear T6 T7 P6 P7 O7 S7 o6 o7 hSg K1 HT HP HTr hpl
        generalize putE E 200 q = z at hz hzb hzd ⊢
        go_wp2_with (fail)
        go_roundw
        case rel => exact ⟨k + 1, A2, c2', E, AP, cP, by go_num, rfl, by omega, by omega, HTr7.out, HT8.out, HP8.out, K8.out.1, K8.out.2⟩
        case measure => simp [intOf]; omega
    · obtain rfl : k = L.length := by omega
      obtain ⟨n, hn⟩ : ∃ n, E.length = n := ⟨_, rfl⟩
      have hn2 : n ≤ 200 := by omega
      clear hE hk
      rw [hn] at hP ⊢
      have HTr := Lib.hid hTr
      have HT := Lib.hid hT
      have HP := Lib.hid hP
      have K1 := Lib.hid (And.intro hO bs)
      clear hTr hO bs hT HL hP
      go_wp2_with (fail)
      refine (told_any HT.out (by omega)).mono ?_
      rintro e w6 ⟨AW, cW, rfl, W6, o6⟩
      obtain ⟨wr0, hwr0⟩ : ∃ wr0, wr0 = wr := ⟨_, rfl⟩
      rw [← hwr0] at W6
      clear hwr0
      rw [hn] at W6 ⊢
      have T6 := HT.out.keep o6
      have P6 : w6.ownsRow g 26 3 (.slice AP n cP) n (flat3 (E.map (·.1))) := ownsRow_only o6 HP.out (fun _ _ => by simp)
      have O6 := K1.out.1.trans o6 (by simp)
      have S6 := o6.blk K1.out.2 (by simp)
      obtain ⟨s0, s1, s2, sl⟩ := S6.facts3
      clear K1 HT HP o6
      go_wp2_with (fail)
      refine (of_any s _).mono ?_
      rintro e w7 ⟨rfl, o7⟩
      have T7 := T6.keep o7
      go_wp2_with (fail)
      refine (back_tot T7 HTr.out oS (by omega)).mono ?_
      rintro e w8 ⟨v8, rfl, I8, T8, o8⟩
      have W7 : w7.ownsRow _ 45 4 (.slice AW n cW) n (flat4 E) := ownsRow_only o7 W6 (fun _ _ => by simp)
      have P7 : w7.ownsRow g 26 3 (.slice AP n cP) n (flat3 (E.map (·.1))) := ownsRow_only o7 P6 (fun _ _ => by simp)
      have W8 := ownsRow_only o8 W7 (T7.own_other W7 (by decide) (by decide))
      have P8 := ownsRow_only o8 P7 (T7.own_other P7 (by decide) (by decide))
      have O8 := (O6.trans o7 (by simp)).trans o8 (fun y hy => .inr (by have := T7.above y hy; omega))
      have hu := uT_le E s
      generalize uT E s = u at I8 T8 hu
      rw [hn] at hu
      have lb : (((E.drop u).map (·.2)).reverse).length = n - u := by simp [hn]
      obtain ⟨AB, cB, rfl, -⟩ := I8.row (N := w8.heap.size) lb (val := fun i => ((((E.drop u).map (·.2)).reverse)[i]?).getD 0) (fun i hi => by rw [List.getElem?_eq_getElem (by rw [lb]; exact hi)]; rfl) rfl
      have HI := Lib.hid I8
      have HT := Lib.hid T8
      have HW := Lib.hid W8
      have HP := Lib.hid P8
      have HO := Lib.hid O8
      have hw0 : IntKind.i64.wrap (((n - u : Nat) : Int) - 1) = ((n - u : Nat) : Int) - 1 := by rw [IntKind.wrap_i64]; omega
      clear s0 s1 s2 sl T6 T7 P6 P7 P8 W6 W7 W8 O6 O8 S6 o7 o8 I8 T8 lb
      go_wp2_with (fail)
      go_loopw [11] (fun i wr => ∃ (j : Nat) (A1 : Option Addr) (c1 : Nat), i = .int .i64 (((n - u : Nat) : Int) - 1 - (j : Int)) ∧ j ≤ n - u ∧ TB g wr g 200 (E.take (u + j)) A1 c1 ∧ IntsAt wr w7.heap.size (.slice AB (n - u) cB) ((E.drop u).map (·.2)).reverse ∧ wr.ownsRow g 26 3 (.slice AP n cP) n (flat3 (E.map (·.1))) ∧ wr.ownsRow wr0.heap.size 45 4 (.slice AW n cW) n (flat4 E) ∧ Only [] w wr) (fun i _ => (intOf i + 1).toNat)
      case atStart => exact ⟨0, A1, c1, by first | (simp; done) | (rw [hw0]; simp), Nat.zero_le _, HT.out, HI.out, HP.out, HW.out, HO.out⟩
      case round =>
        clear HT HI HP HW HO A1 c1
        obtain ⟨j, A1, c1, rfl, hju, hT, hI, hP, hW, hO⟩ := hrel
        by_cases hlt : j < n - u
        · obtain ⟨m, hm⟩ : ∃ m, n - u = j + 1 + m := ⟨n - u - 1 - j, by omega⟩
          obtain ⟨q, hq⟩ : ∃ q, u + j = q := ⟨_, rfl⟩
          have hqE : q < E.length := by omega
          have ei : ((n - u : Nat) : Int) - 1 - (j : Int) = (m : Int) := by omega
          have hix : (n : Int) - 1 - (m : Int) = (q : Int) := by omega
          rw [ei]
          rw [hq] at hT
          obtain ⟨hPa, hPb⟩ := put_again HTr.out hqE (by omega)
          have hTq := HTr.out.take q
          obtain ⟨bp, rfl, hbp, -, c0, c1', c2⟩ := own_cell3 (by simp [hn]) hP (i := q) (s := (E[q]).1) (by simp [hqE])
          have lb : (((E.drop u).map (·.2)).reverse).length = n - u := by simp [hn]
          have xb : (((E.drop u).map (·.2)).reverse)[m]? = some (E[q]).2 := by
            rw [List.getElem?_reverse (by simp [hn]; omega), List.getElem?_map, List.getElem?_drop]
            have e : u + (((E.drop u).map (·.2)).length - 1 - m) = q := by simp [hn]; omega
            rw [e, List.getElem?_eq_getElem hqE]
            rfl
          obtain ⟨AB2, cB2, hAB, hBc⟩ := len_nil_int hI
          injection hAB with hAB hx1 hx2
          clear hx1 hx2
          subst hAB
          obtain ⟨hb, rfl, -, hbl, c3⟩ := hBc m _ xb
          have ho1 := (HTr.out.ok E[q] (List.getElem_mem _)).1
          generalize E[q] = e1 at c0 c1' c2 c3 hPa hPb ho1
          have c1 := c1'
          have HT := Lib.hid hT
          have HP := Lib.hid hP
          have HW := Lib.hid hW
          have HI := Lib.hid hI
          have HO := Lib.hid hO
          have HTq := Lib.hid hTq
          have HPQ := Lib.hid (And.intro hPa hPb)
          have HMJ := Lib.hid (And.intro hm hq)
          have hmlt : m < n - u := by omega
          have hqn : q < n := by omega
          have hm0 : (0 : Int) ≤ (m : Int) := by omega
          have hw1 : IntKind.i64.wrap ((n : Int) - 1) = (n : Int) - 1 := by rw [IntKind.wrap_i64]; omega
          have hw2 : IntKind.i64.wrap (q : Int) = (q : Int) := by rw [IntKind.wrap_i64]; omega
          have hw64 : IntKind.i64.wrap (m : Int) = (m : Int) := by rw [IntKind.wrap_i64]; omega
          have hql : (E.take q).length ≤ 1048576 := by simp; omega
          have HQL := Lib.hid hql
          clear hT hP hW hI hO hTq hPa hPb hBc xb lb ei hm hq c1' hn hqE hql
          go_wp2_with (fail)
          refine wp_region_held_drew (S := (fun w' => w'.cell? ⟨bp, q * 3, none⟩ = some (.int .i64 e1.1.1.1) ∧ w'.cell? ⟨bp, q * 3 + 1, none⟩ = some (.int .i64 e1.1.1.2) ∧ w'.cell? ⟨bp, q * 3 + 2, none⟩ = some (.int .i64 e1.1.2) ∧ w'.cell? ⟨hb, m, none⟩ = some (.int .i64 e1.2))) (by kernel_rfl) ?_ (fun hHeld => ?_)
          · (refine ⟨?_, ?_, ?_, ?_⟩ <;> (go_simp; done))
          refine wpAnyH_take (i := 0) (v := ?_) rfl (by kernel_rfl) (by kernel_rfl) (by kernel_rfl) (fun _ _ _ h => h) (Or.inl ⟨by kernel_rfl, ?_⟩) hHeld ?_
          rotate_left
          · (intro w hSw; (try dsimp only at hSw); go_simp; try with_reducible rfl)
          change wpAnyH _ _ _ _ _ _ _ (Act.put _ (some 59) _) _
          simp only [Act.put, List.setIfInBounds_toArray, List.set_cons_zero, List.set_cons_succ]
          refine wpAnyH_take (i := 1) (v := ?_) rfl (by kernel_rfl) (by kernel_rfl) (by kernel_rfl) (fun _ _ _ h => h) (Or.inl ⟨by kernel_rfl, ?_⟩) hHeld ?_
          rotate_left
          · (intro w hSw; (try dsimp only at hSw); go_simp; try with_reducible rfl)
          change wpAnyH _ _ _ _ _ _ _ (Act.put _ (some 60) _) _
          simp only [Act.put, List.setIfInBounds_toArray, List.set_cons_zero, List.set_cons_succ]
          refine wpAnyH_take (i := 2) (v := ?_) rfl (by kernel_rfl) (by kernel_rfl) (by kernel_rfl) (fun _ _ _ h => h) (Or.inl ⟨by kernel_rfl, ?_⟩) hHeld ?_
          rotate_left
          · (intro w hSw; (try dsimp only at hSw); go_simp; try with_reducible rfl)
          change wpAnyH _ _ _ _ _ _ _ (Act.put _ (some 61) _) _
          simp only [Act.put, List.setIfInBounds_toArray, List.set_cons_zero, List.set_cons_succ]
          refine wpAnyH_take (i := 3) (v := ?_) rfl (by kernel_rfl) (by kernel_rfl) (by kernel_rfl) (fun _ _ _ h => h) (Or.inl ⟨by kernel_rfl, ?_⟩) hHeld ?_
          rotate_left
          · (intro w hSw; (try dsimp only at hSw); go_simp; try with_reducible rfl)
          change wpAnyH _ _ _ _ _ _ _ (Act.put _ (some 62) _) _
          simp only [Act.put, List.setIfInBounds_toArray, List.set_cons_zero, List.set_cons_succ]
          refine wpAnyH_take (i := 4) (v := ?_) rfl (by kernel_rfl) (by kernel_rfl) (by kernel_rfl) (fun _ _ _ h => h) (Or.inl ⟨by kernel_rfl, ?_⟩) hHeld ?_
          rotate_left
          · (intro w hSw; (try dsimp only at hSw); go_simp; try with_reducible rfl)
          change wpAnyH _ _ _ _ _ _ _ (Act.put _ (some 63) _) _
          simp only [Act.put, List.setIfInBounds_toArray, List.set_cons_zero, List.set_cons_succ]
          refine wpAnyH_take (i := 5) (v := ?_) rfl (by kernel_rfl) (by kernel_rfl) (by kernel_rfl) (fun _ _ _ h => h) (Or.inl ⟨by kernel_rfl, ?_⟩) hHeld ?_
          rotate_left
          · (intro w hSw; (try dsimp only at hSw); go_simp; try with_reducible rfl)
          change wpAnyH _ _ _ _ _ _ _ (Act.put _ (some 64) _) _
          simp only [Act.put, List.setIfInBounds_toArray, List.set_cons_zero, List.set_cons_succ]
          refine wpAnyH_take (i := 6) (v := ?_) rfl (by kernel_rfl) (by kernel_rfl) (by kernel_rfl) (fun _ _ _ h => h) (Or.inl ⟨by kernel_rfl, ?_⟩) hHeld ?_
          rotate_left
          · (intro w hSw; (try dsimp only at hSw); go_simp; try with_reducible rfl)
          change wpAnyH _ _ _ _ _ _ _ (Act.put _ (some 65) _) _
          simp only [Act.put, List.setIfInBounds_toArray, List.set_cons_zero, List.set_cons_succ]
          refine wpAnyH_take (i := 7) (v := ?_) rfl (by kernel_rfl) (by kernel_rfl) (by kernel_rfl) (fun _ _ _ h => h) (Or.inl ⟨by kernel_rfl, ?_⟩) hHeld ?_
          rotate_left
          · (intro w hSw; (try dsimp only at hSw); go_simp; try with_reducible rfl)
          change wpAnyH _ _ _ _ _ _ _ (Act.put _ (some 66) _) _
          simp only [Act.put, List.setIfInBounds_toArray, List.set_cons_zero, List.set_cons_succ]
          refine wpAnyH_take (i := 8) (v := ?_) rfl (by kernel_rfl) (by kernel_rfl) (by kernel_rfl) (fun _ _ _ h => h) (Or.inl ⟨by kernel_rfl, ?_⟩) hHeld ?_
          rotate_left
          · (intro w hSw; (try dsimp only at hSw); go_simp; try with_reducible rfl)
          change wpAnyH _ _ _ _ _ _ _ (Act.put _ (some 67) _) _
          simp only [Act.put, List.setIfInBounds_toArray, List.set_cons_zero, List.set_cons_succ]
          refine wpAnyH_take (i := 10) (v := ?_) rfl (by kernel_rfl) (by kernel_rfl) (by kernel_rfl) (fun _ _ _ h => h) (Or.inl ⟨by kernel_rfl, ?_⟩) hHeld ?_
          rotate_left
          · (intro w hSw; (try dsimp only at hSw); go_simp; try with_reducible rfl)
          change wpAnyH _ _ _ _ _ _ _ (Act.put _ (some 69) _) _
          simp only [Act.put, List.setIfInBounds_toArray, List.set_cons_zero, List.set_cons_succ]
          refine wpAnyH_take (i := 11) (v := ?_) rfl (by kernel_rfl) (by kernel_rfl) (by kernel_rfl) (fun _ _ _ h => h) (Or.inl ⟨by kernel_rfl, ?_⟩) hHeld ?_
          rotate_left
          · (intro w hSw; (try dsimp only at hSw); go_simp; try with_reducible rfl)
          change wpAnyH _ _ _ _ _ _ _ (Act.put _ (some 70) _) _
          simp only [Act.put, List.setIfInBounds_toArray, List.set_cons_zero, List.set_cons_succ]
          refine wpAnyH_take (i := 12) (v := ?_) rfl (by kernel_rfl) (by kernel_rfl) (by kernel_rfl) (fun _ _ _ h => h) (Or.inl ⟨by kernel_rfl, ?_⟩) hHeld ?_
          rotate_left
          · (intro w hSw; (try dsimp only at hSw); go_simp; try with_reducible rfl)
          change wpAnyH _ _ _ _ _ _ _ (Act.put _ (some 71) _) _
          simp only [Act.put, List.setIfInBounds_toArray, List.set_cons_zero, List.set_cons_succ]
          refine wpAnyH_take (i := 13) (v := ?_) rfl (by kernel_rfl) (by kernel_rfl) (by kernel_rfl) (fun _ _ _ h => h) (Or.inl ⟨by kernel_rfl, ?_⟩) hHeld ?_
          rotate_left
          · (intro w hSw; (try dsimp only at hSw); go_simp; try with_reducible rfl)
          change wpAnyH _ _ _ _ _ _ _ (Act.put _ (some 72) _) _
          simp only [Act.put, List.setIfInBounds_toArray, List.set_cons_zero, List.set_cons_succ]
          refine wpAnyH_ready (rs := [9]) (by kernel_rfl) (by simp) ?_
          refine AllReadyH.cons rfl (fun K hK => ?_) AllReadyH.nil
          go_simp
          refine (of_any e1.1 _).mono ?_
          rintro e w9 ⟨rfl, o9⟩
          have D0 := (o9.cell (p := ⟨bp, q * 3, none⟩) hbp (by simp)).trans c0
          have D1 := (o9.cell (p := ⟨bp, q * 3 + 1, none⟩) hbp (by simp)).trans c1
          have D2 := (o9.cell (p := ⟨bp, q * 3 + 2, none⟩) hbp (by simp)).trans c2
          have D3 := (o9.cell (p := ⟨hb, m, none⟩) hbl (by simp)).trans c3
          refine hK.out _ _ (⟨D0, D1, D2, D3⟩) (fun hHeld2 => ?_)
          clear hK K hHeld
          have hHeld := hHeld2; clear hHeld2
          try simp only [Act.put, List.setIfInBounds_toArray, List.set_cons_zero, List.set_cons_succ]
          refine wpAnyH_ready (rs := [14]) (by kernel_rfl) (by simp) ?_
          refine AllReadyH.cons rfl (fun K hK => ?_) AllReadyH.nil
          go_simp
          have T9 := (HT.out.keep (Only.refl [] wr).drew).keep o9
          have hp := put_any (s := e1.1) (x := e1.2) T9 HTq.out ho1 HQL.out (Nat.le_of_lt T9.blk.lt)
          rw [HPQ.out.1, HPQ.out.2] at hp
          refine hp.mono ?_
          clear hp
          rintro e w10 ⟨rfl, A3, c3', T10, o10, -⟩
          have P9 : w9.ownsRow g 26 3 (.slice (some ⟨bp, 0, none⟩) n cP) n (flat3 (E.map (·.1))) := ownsRow_only ((Only.refl [] wr).drew.trans o9 (by simp)) HP.out (fun _ _ => by simp)
          have W9 : w9.ownsRow _ 45 4 (.slice AW n cW) n (flat4 E) := ownsRow_only ((Only.refl [] wr).drew.trans o9 (by simp)) HW.out (fun _ _ => by simp)
          have I9 := (HI.out.keep (Only.refl [] wr).drew (by simp)).keep o9 (by simp)
          have P10 := ownsRow_only o10 P9 (T9.own_other P9 (by decide) (by decide))
          have W10 := ownsRow_only o10 W9 (T9.own_other W9 (by decide) (by decide))
          have I10 := I9.keepT T9 o10
          have O10 := (HO.out.trans ((Only.refl [] wr).drew.trans o9 (by simp)) (by simp)).trans o10 (fun y hy => .inr (by have := T9.above y hy; omega))
          have hnP := T9.own_other P9 (by decide) (by decide) bp rfl
          have hnB : hb ∉ g :: A1.toList.map (·.block) := by
            rcases I9 with ⟨h, _⟩ | ⟨h', h, _, hbb⟩
            · cases h
            · injection h with h _ _
              injection h with h
              injection h with h _ _
              rw [h]
              exact T9.blk_other hbb (by decide) (by decide)
          have G0 := (o10.cell (p := ⟨bp, q * 3, none⟩) (Nat.lt_of_lt_of_le hbp o9.size) hnP).trans D0
          have G1 := (o10.cell (p := ⟨bp, q * 3 + 1, none⟩) (Nat.lt_of_lt_of_le hbp o9.size) hnP).trans D1
          have G2 := (o10.cell (p := ⟨bp, q * 3 + 2, none⟩) (Nat.lt_of_lt_of_le hbp o9.size) hnP).trans D2
          have G3 := (o10.cell (p := ⟨hb, m, none⟩) (Nat.lt_of_lt_of_le hbl o9.size) hnB).trans D3
          have HT10 := Lib.hid T10
          have HP10 := Lib.hid P10
          have HW10 := Lib.hid W10
          have HI10 := Lib.hid I10
          have HO10 := Lib.hid O10
          clear T9 T10 P9 P10 W9 W10 I9 I10 O10 hnP hnB o9 o10 D0 D1 D2 D3 HT HP HW HI HO
          refine hK.out _ _ (⟨G0, G1, G2, G3⟩) (fun hHeld2 => ?_)
          clear hK K hHeld
          have hHeld := hHeld2; clear hHeld2
          try simp only [Act.put, List.setIfInBounds_toArray, List.set_cons_zero, List.set_cons_succ]
          refine wpAnyH_take (i := 15) (v := ?_) rfl (by kernel_rfl) (by kernel_rfl) (by kernel_rfl) (fun _ _ _ h => h) (Or.inl ⟨by kernel_rfl, ?_⟩) hHeld ?_
          rotate_left
          · (intro w hSw; (try dsimp only at hSw); go_simp; try with_reducible rfl)
          change wpAnyH _ _ _ _ _ _ _ (Act.put _ (some 74) _) _
          simp only [Act.put, List.setIfInBounds_toArray, List.set_cons_zero, List.set_cons_succ]
          refine wpAnyH_done (by kernel_rfl) ?_ _
          go_wp2_with (fail)
          go_roundw
          case rel =>
            have hmj := HMJ.out
            exact ⟨j + 1, A3, c3', by congr 1; omega, by omega, by have := HT10.out; rw [← hmj.2] at this; exact this, HI10.out, HP10.out, HW10.out, HO10.out⟩
          case measure => first | (simp [intOf]; done) | (simp [intOf]; omega)
        · obtain rfl : j = n - u := by omega
          have e2 : ((n - u : Nat) : Int) - 1 - ((n - u : Nat) : Int) = -1 := by omega
          have e3 : u + (n - u) = n := by omega
          rw [e2]
          rw [e3, ← hn, List.take_length] at hT
          have W2 := hW
          have HT := Lib.hid hT
          have HO := Lib.hid hO
          have HW := Lib.hid hW
          clear hT hP hW hI hO e2 e3 W2
          go_wp2_with (fail)
          refine (len_any HT.out).mono ?_
          rintro e w9 ⟨rfl, rfl⟩
          rw [hn]
          go_wp2_with (fail)
          refine (told_any HT.out (by omega)).mono ?_
          rintro e w10 ⟨A5, c5, rfl, W5, o10⟩
          rw [hn] at W5 ⊢
          have W6 : w10.ownsRow _ 45 4 (.slice AW n cW) n (flat4 E) := ownsRow_only o10 HW.out (fun _ _ => by simp)
          have hsm := same_true (c := c5) (c' := cW) (own_row4 hn.symm W5) (own_row4 hn.symm W6) hn (by omega)
          have HO10 := Lib.hid (HO.out.trans o10 (by simp))
          clear W5 W6 o10
          go_wp2_with (fail)
          refine hsm.mono ?_
          clear hsm
          rintro e w11 ⟨rfl, o11⟩
          go_wp2_with (fail)
          go_ret
          exact ⟨rfl, HO10.out.trans o11 (by simp)⟩

theorem trackagain_any {A : Option Addr} {cap : Nat} {L : List St} {s : St} {w : World} (hL : Stamps w A L) (hlen : L.length ≤ 9223372036854775807) (oS : s.ok) :
    Calls Try.prog 5 #[.slice A L.length cap, .agg #[.int .i64 s.1.1, .int .i64 s.1.2, .int .i64 s.2]] w fun e w' => e = .returned (.bool true) ∧ Only [] w w' := by
  by_cases hl : 200 < L.length
  · exact again_many hl hlen
  · exact again_few hL (by omega) oS
end Go.Proofs.Ytcggeogpanackaa
