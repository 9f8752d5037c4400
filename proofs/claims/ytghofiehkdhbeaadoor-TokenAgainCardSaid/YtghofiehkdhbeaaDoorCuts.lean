/- TokenCuts. -/
import Derived.Test.YtghofiehkdhbeaaDoorAlls
namespace Go.Proofs.YtghofiehkdhbeaaDoor
open Go.RowKit Go.Kx Go.Tok
set_option maxRecDepth 100000

theorem good_fits {t : Tok} (h : Go.Tok.Good t) : Fits t := by
  cases h with
  | name h1 h2 h3 => exact ⟨Nat.zero_le _, by simp; omega, by simp⟩
  | sym h1 h2 h3 => exact ⟨Nat.zero_le _, by simp; omega, by simp⟩
  | num h => exact ⟨h, by simp, by simp⟩
  | two h => exact ⟨Nat.zero_le _, by simp, by simp⟩
  | one h => exact ⟨Nat.zero_le _, by simp, by simp⟩
theorem scanR_none {s : ByteArray} {ws : List Word} (h : scanR s = (ws, none)) : scanL s.data.toList 0 = (ws, none) ∧ s.size ≤ 16384 := by
  unfold scanR at h
  split at h
  · cases h
  · exact ⟨h, by omega⟩
theorem scanR_of {s : ByteArray} {o : Out} (h : scanL s.data.toList 0 = o) (hs : s.size ≤ 16384) : scanR s = o := by
  unfold scanR
  rw [if_neg (by omega), h]
theorem ext_cut (s : ByteArray) (c : Nat) : (s.extract 0 c).data.toList = s.data.toList.take c := by simp
/-- a cut behind a word -/
theorem cut_facts {s : ByteArray} {ws : List Word} (h : scanR s = (ws, none)) {n : Nat} (hn : n + 1 < ws.length) : ∃ x, ws[n]? = some x ∧ Go.Tok.Good x.t ∧ x.at_ + (text x.t).length ≤ s.size ∧ scanR (s.extract 0 (x.at_ + (text x.t).length)) = (ws.take (n + 1) ++ [⟨eof, x.at_ + (text x.t).length⟩], none) := by
  obtain ⟨h1, h2⟩ := scanR_none h
  have hc := scan_chain _ s.data.toList 0 ws (Nat.le_refl _) h1
  obtain ⟨x, hx⟩ : ∃ x, ws[n]? = some x := ⟨_, List.getElem?_eq_getElem (by omega)⟩
  obtain ⟨y, hy⟩ : ∃ y, ws[n + 1]? = some y := ⟨_, List.getElem?_eq_getElem hn⟩
  obtain ⟨r1, r2⟩ := hc.rises n x y hx hy
  have hle := (hc.at_ge y (List.mem_of_getElem? hy)).2
  have hsz : s.data.toList.length = s.size := by simp
  rw [Nat.zero_add, hsz] at hle
  obtain ⟨_, q2⟩ := scan_cut n s.data.toList 0 ws x h1 hx hn
  rw [Nat.sub_zero] at q2
  refine ⟨x, hx, r2, by omega, scanR_of ?_ (by simp; omega)⟩
  rw [ext_cut, q2]
set_option maxHeartbeats 4000000 in
theorem cuts_any {w : World} {s : ByteArray} {z : Int} (hz0 : 0 ≤ z) (hz1 : z ≤ 255) (hT : Tabs w) : Calls Tryd.prog 6 #[.string s, .int .u8 z] w fun r w' => r = .returned (.bool true) ∧ Only [] w w' := by
  have HT := Lib.hid hT
  clear hT
  by_cases hbig : 6000 < s.size
  · have e1 : (6000 : Int) < (s.size : Int) := by omega
    go_enter Tryd.func6, Tryd.ntmps6
    go_wp2_with (fail)
    refine (awake_any HT.out).mono ?_
    rintro r w1 ⟨rfl, o1⟩
    have HO1 := Lib.hid o1
    clear o1
    go_wp2_with (fail)
    refine (awake_any (HT.out.keep HO1.out)).mono ?_
    rintro r w2 ⟨rfl, o2⟩
    have HO2 := Lib.hid (HO1.out.trans o2 (by simp))
    clear o2
    go_wp2_with (fail)
    go_ret
    exact ⟨rfl, HO2.out⟩
  · have e1 : decide ((6000 : Int) < (s.size : Int)) = false := by simp; omega
    obtain ⟨ws, er, hsc⟩ : ∃ ws er, scanR s = (ws, er) := ⟨_, _, rfl⟩
    have hcnt := scanR_count s
    rw [hsc] at hcnt
    have hwl : ws.length ≤ 100000 := by simp at hcnt; omega
    have HSC := Lib.hid hsc
    clear hsc hcnt
    go_enter Tryd.func6, Tryd.ntmps6
    go_wp2_with (fail)
    refine (awake_any HT.out).mono ?_
    rintro r w1 ⟨rfl, o1⟩
    have HO1 := Lib.hid o1
    clear o1
    go_wp2_with (fail)
    refine (scan_any s (by omega) (HT.out.keep HO1.out)).mono ?_
    rintro r w2 ⟨o2, hp⟩
    have HO2 := Lib.hid (HO1.out.trans o2 (by simp))
    rw [HSC.out] at hp
    clear o2
    cases er with
    | some pe =>
      obtain ⟨p, e⟩ := pe
      have hp2 : r = .returned (.tuple #[.slice none 0 0, .int .i64 p, .int .i64 e]) := hp
      subst hp2
      have he := scanR_err HSC.out
      have ee : ((e : Int) == 0) = false := by rw [beq_eq_false_iff_ne]; omega
      have ee2 : ((e : Int) != 0) = true := by simp; omega
      clear hp he
      go_wp2_with (fail)
      go_ret
      exact ⟨rfl, HO2.out⟩
    | none =>
      obtain ⟨A, c, rfl, how⟩ := hp
      have HR := Lib.hid (own_rowW rfl how)
      clear how
      obtain ⟨N, hN⟩ : ∃ N, ws.length = N := ⟨_, rfl⟩
      rw [hN] at hwl ⊢
      have HN := Lib.hid hN
      clear hN
      by_cases h2 : N < 2
      · have e2 : (N : Int) < 2 := by omega
        go_wp2_with (fail)
        go_ret
        exact ⟨rfl, HO2.out⟩
      · have e22 : decide ((N : Int) < 2) = false := by simp; omega
        have e3 : (1 : Int) ≤ (N : Int) - 1 := by omega
        have e4 : ¬ ((N : Int) - 1 = 0) := by omega
        have hm0 : 0 ≤ z % ((N : Int) - 1) := Int.emod_nonneg _ (by omega)
        have hm1 : z % ((N : Int) - 1) < (N : Int) - 1 := Int.emod_lt_of_pos _ (by omega)
        obtain ⟨n, hn⟩ : ∃ n : Nat, z % ((N : Int) - 1) = n := ⟨(z % ((N : Int) - 1)).toNat, by omega⟩
        rw [hn] at hm0 hm1
        have HNN := Lib.hid hn
        clear hn
        obtain ⟨x, hx, hg, hcs, hcut⟩ := cut_facts HSC.out (n := n) (by have := HN.out; omega)
        obtain ⟨b, o, rfl, hb, c0, c1, c2, c3⟩ := HR.out.at hx
        have HXW := Lib.hid hx
        have HCUT := Lib.hid hcut
        have HTX := Lib.hid (fun w => text_any x.t x.at_ (good_fits hg) w)
        have HC := Lib.hid (show b < w2.heap.size ∧ w2.cell? ⟨b, o + n * 4, none⟩ = some (.int .i64 x.t.kind) ∧ w2.cell? ⟨b, o + n * 4 + 1, none⟩ = some (.string ⟨x.t.s.toArray⟩) ∧ w2.cell? ⟨b, o + n * 4 + 2, none⟩ = some (.int .i64 x.t.n) ∧ w2.cell? ⟨b, o + n * 4 + 3, none⟩ = some (.int .i64 x.at_) from ⟨hb, c0, c1, c2, c3⟩)
        obtain ⟨tl, htl⟩ : ∃ tl, (text x.t).length = tl := ⟨_, rfl⟩
        rw [htl] at hcs HCUT
        have HTL := Lib.hid (show (⟨(text x.t).toArray⟩ : ByteArray).size = tl by rw [← htl]; show (text x.t).toArray.size = _; simp)
        have htb : tl ≤ 6000 := by omega
        have hab : x.at_ ≤ 6000 := by omega
        have hki2 : (n : Int) < (N : Int) := by omega
        have HEXR := Lib.hid (show IntKind.i64.wrap ((x.at_ : Int) + (tl : Int)) = (x.at_ : Int) + (tl : Int) from IntWalk.i64_in _ (by omega))
        clear hx hb c0 c1 c2 c3 hcut hg htl
        go_wp2_with (fail)
        rw [HNN.out]
        refine (wpIn_wide (n := 9)).1 ?_
        refine wpIn_region_relR 12 (Only []) (fr := ?frg) (tl := ?tlg) (fun iq v wv => match iq with
          | 0 => v = .slice (some ⟨b, o, none⟩) N c
          | 1 => v = .int .i64 (n : Nat)
          | 2 => v = .pointer (some ⟨b, o + n * 4, none⟩)
          | 3 => v = .pointer (some ⟨b, o + n * 4 + 3, none⟩)
          | 4 => v = .int .i64 x.at_
          | 5 => v = .slice (some ⟨b, o, none⟩) N c
          | 6 => v = .int .i64 (n : Nat)
          | 7 => v = .pointer (some ⟨b, o + n * 4, none⟩)
          | 8 => v = .agg #[.int .i64 x.t.kind, .string ⟨x.t.s.toArray⟩, .int .i64 x.t.n, .int .i64 x.at_]
          | 9 => v = .string ⟨(text x.t).toArray⟩
          | 10 => v = .int .i64 (tl : Nat)
          | 11 => v = .int .i64 ((x.at_ : Nat) + (tl : Nat))
          | _ => True) (.inl rfl) (by kernel_rfl) (by kernel_rfl) (by kernel_rfl) (by kernel_rfl) (by kernel_rfl) (by kernel_rfl) (by decide) ?htlg ?hfrg (Only.refl _ _) (fun _ _ _ h k => h.trans k (fun _ hx => .inl hx)) ?stabg ?stepsg ?doneg
        case htlg => simp only [List.drop_succ_cons, List.drop_zero]; rfl
        case hfrg => intro vals; simp only [putAll, dstAt, Act.put, List.getElem?_toArray, List.getElem?_cons_zero, List.getElem?_cons_succ, Option.bind_some, List.setIfInBounds_toArray, List.set_cons_zero, List.set_cons_succ]; rfl
        case stabg =>
          intro i v wa wb h
          try dsimp only
          split <;> first | exact id
        case stepsg =>
          refine ⟨?_, ?_, ?_, ?_, ?_, ?_, ?_, ?_, ?_, ?_, ?_, ?_, trivial⟩
          · intro vals wr hR hp K hK
            dsimp only at hK ⊢
            clear hp
            unfold RunsOp
            go_simp
            exact hK.out _ _ ⟨_, rfl, Only.refl _ _, rfl⟩
          · intro vals wr hR hp K hK
            dsimp only at hK ⊢
            clear hp
            unfold RunsOp
            go_simp
            exact hK.out _ _ ⟨_, rfl, Only.refl _ _, rfl⟩
          · intro vals wr hR hp K hK
            dsimp only at hK ⊢
            obtain ⟨p0, p1, -⟩ := hp
            replace p0 := p0 rfl
            replace p1 := p1 rfl
            dsimp only at p0 p1
            rw [p0, p1] at hK ⊢
            clear p0 p1
            unfold RunsOp
            go_simp
            exact hK.out _ _ ⟨_, rfl, Only.refl _ _, rfl⟩
          · intro vals wr hR hp K hK
            dsimp only at hK ⊢
            obtain ⟨p2, -⟩ := hp
            replace p2 := p2 rfl
            dsimp only at p2
            rw [p2] at hK ⊢
            clear p2
            unfold RunsOp
            go_simp
            exact hK.out _ _ ⟨_, rfl, Only.refl _ _, rfl⟩
          · intro vals wr hR hp K hK
            dsimp only at hK ⊢
            obtain ⟨p3, -⟩ := hp
            replace p3 := p3 rfl
            dsimp only at p3
            rw [p3] at hK ⊢
            clear p3
            unfold RunsOp
            have k3 := (hR.cell (p := ⟨b, o + n * 4 + 3, none⟩) HC.out.1 (by simp)).trans HC.out.2.2.2.2
            go_simp
            exact hK.out _ _ ⟨_, rfl, Only.refl _ _, rfl⟩
          · intro vals wr hR hp K hK
            dsimp only at hK ⊢
            clear hp
            unfold RunsOp
            go_simp
            exact hK.out _ _ ⟨_, rfl, Only.refl _ _, rfl⟩
          · intro vals wr hR hp K hK
            dsimp only at hK ⊢
            clear hp
            unfold RunsOp
            go_simp
            exact hK.out _ _ ⟨_, rfl, Only.refl _ _, rfl⟩
          · intro vals wr hR hp K hK
            dsimp only at hK ⊢
            obtain ⟨p5, p6, -⟩ := hp
            replace p5 := p5 rfl
            replace p6 := p6 rfl
            dsimp only at p5 p6
            rw [p5, p6] at hK ⊢
            clear p5 p6
            unfold RunsOp
            go_simp
            exact hK.out _ _ ⟨_, rfl, Only.refl _ _, rfl⟩
          · intro vals wr hR hp K hK
            dsimp only at hK ⊢
            obtain ⟨p7, -⟩ := hp
            replace p7 := p7 rfl
            dsimp only at p7
            rw [p7] at hK ⊢
            clear p7
            unfold RunsOp
            have k0 := (hR.cell (p := ⟨b, o + n * 4, none⟩) HC.out.1 (by simp)).trans HC.out.2.1
            have k1 := (hR.cell (p := ⟨b, o + n * 4 + 1, none⟩) HC.out.1 (by simp)).trans HC.out.2.2.1
            have k2 := (hR.cell (p := ⟨b, o + n * 4 + 2, none⟩) HC.out.1 (by simp)).trans HC.out.2.2.2.1
            have k3 := (hR.cell (p := ⟨b, o + n * 4 + 3, none⟩) HC.out.1 (by simp)).trans HC.out.2.2.2.2
            go_simp
            exact hK.out _ _ ⟨_, rfl, Only.refl _ _, rfl⟩
          · intro vals wr hR hp K hK
            dsimp only at hK ⊢
            obtain ⟨p8, -⟩ := hp
            replace p8 := p8 rfl
            dsimp only at p8
            rw [p8] at hK ⊢
            clear p8
            unfold RunsOp
            go_simp
            refine (HTX.out _).mono ?_
            rintro e w2' ⟨rfl, o2⟩
            exact hK.out _ _ ⟨_, rfl, o2, rfl⟩
          · intro vals wr hR hp K hK
            dsimp only at hK ⊢
            obtain ⟨p9, -⟩ := hp
            replace p9 := p9 rfl
            dsimp only at p9
            rw [p9] at hK ⊢
            clear p9
            unfold RunsOp
            have tle := HTL.out
            go_simp
            exact hK.out _ _ ⟨_, rfl, Only.refl _ _, rfl⟩
          · intro vals wr hR hp K hK
            dsimp only at hK ⊢
            obtain ⟨p4, p10, -⟩ := hp
            replace p4 := p4 rfl
            replace p10 := p10 rfl
            dsimp only at p4 p10
            rw [p4, p10] at hK ⊢
            clear p4 p10
            unfold RunsOp
            have twr := HEXR.out
            go_simp
            exact hK.out _ _ ⟨_, rfl, Only.refl _ _, rfl⟩
        case doneg =>
          intro vals wd hR hF
          have f0 : vals 0 = .slice (some ⟨b, o, none⟩) N c := hF 0 (by decide)
          have f1 : vals 1 = .int .i64 (n : Nat) := hF 1 (by decide)
          have f2 : vals 2 = .pointer (some ⟨b, o + n * 4, none⟩) := hF 2 (by decide)
          have f3 : vals 3 = .pointer (some ⟨b, o + n * 4 + 3, none⟩) := hF 3 (by decide)
          have f4 : vals 4 = .int .i64 x.at_ := hF 4 (by decide)
          have f5 : vals 5 = .slice (some ⟨b, o, none⟩) N c := hF 5 (by decide)
          have f6 : vals 6 = .int .i64 (n : Nat) := hF 6 (by decide)
          have f7 : vals 7 = .pointer (some ⟨b, o + n * 4, none⟩) := hF 7 (by decide)
          have f8 : vals 8 = .agg #[.int .i64 x.t.kind, .string ⟨x.t.s.toArray⟩, .int .i64 x.t.n, .int .i64 x.at_] := hF 8 (by decide)
          have f9 : (vals 9) = .string ⟨(text x.t).toArray⟩ := hF 9 (by decide)
          have f10 : vals 10 = .int .i64 (tl : Nat) := hF 10 (by decide)
          have f11 : vals 11 = .int .i64 ((x.at_ : Nat) + (tl : Nat)) := hF 11 (by decide)
          rw [f0, f1, f2, f3, f4, f5, f6, f7, f8, f10, f11]
          clear f0 f1 f2 f3 f4 f5 f6 f7 f8 f10 f11
          rw [f9]
          clear f9
          have HO3 := Lib.hid (HO2.out.trans ((Only.refl [] w2).drew.trans hR (by simp)) (by simp))
          have HR3 := Lib.hid (HR.out.keep ((Only.refl [] w2).drew.trans hR (by simp)))
          clear hR hF
          gi_wp2_with (fail)
          go_wp2_with (fail)
          refine (scan_any (s.extract 0 (x.at_ + tl)) (by simp; omega) (HT.out.keep HO3.out)).mono ?_
          rintro r w4 ⟨o4, hp⟩
          rw [HCUT.out] at hp
          obtain ⟨A2, c2, rfl, how⟩ := hp
          have HO4 := Lib.hid (HO3.out.trans o4 (by simp))
          have HR4 := Lib.hid (HR3.out.keep o4)
          obtain ⟨M, hM⟩ : ∃ M, ws.take (n + 1) ++ [(⟨eof, x.at_ + tl⟩ : Word)] = M := ⟨_, rfl⟩
          rw [hM] at how ⊢
          have hnw : n + 1 < ws.length := by have := HN.out; omega
          have hML : M.length = n + 2 := by rw [← hM]; simp; omega
          have hMl : M[n + 1]? = some ⟨eof, x.at_ + tl⟩ := by rw [← hM, List.getElem?_append_right (by rw [List.length_take]; omega), List.length_take, show n + 1 - min (n + 1) ws.length = 0 by omega]; rfl
          have hMk : ∀ k, k ≤ n → M[k]? = ws[k]? := fun k hk => by rw [← hM, List.getElem?_append_left (by simp; omega), List.getElem?_take_of_lt (by omega)]
          have hrow := own_rowW rfl how
          obtain ⟨b2, o2, rfl, hb2, d0, d1, d2, d3⟩ := hrow.at hMl
          rw [hML]
          have HRM := Lib.hid hrow
          have HMK := Lib.hid hMk
          have d0' : w4.cell? ⟨b2, o2 + (n + 1) * 4, none⟩ = some (.int .i64 4) := d0
          have d3' : w4.cell? ⟨b2, o2 + (n + 1) * 4 + 3, none⟩ = some (.int .i64 ((x.at_ : Int) + (tl : Int))) := by rw [d3]; rfl
          have t1 : (0 : Int) ≤ (n : Int) + 1 := by omega
          have t2 : (n : Int) + 1 < (n : Int) + 2 := by omega
          have t3 : ((n : Int) + 1).toNat = n + 1 := by omega
          have t4 : (n : Int) ≤ 100000 := by omega
          clear o4 how hM hML hMl hMk hrow d0 d1 d2 d3 hb2 hnw
          go_wp2_with (fail)
          clear d0' d3' t1 t2 t3
          go_loopw [13] (fun i wr => ∃ k : Nat, i = .int .i64 k ∧ k ≤ n + 1 ∧ Only [] w4 wr) (fun i _ => n + 1 - (intOf i).toNat)
          case atStart => exact ⟨0, rfl, by omega, Only.refl _ _⟩
          case round =>
            obtain ⟨k, rfl, hk, hO⟩ := hrel
            have HOr := Lib.hid hO
            clear hO
            by_cases hle : k ≤ n
            · obtain ⟨y, hy⟩ : ∃ y, ws[k]? = some y := ⟨_, List.getElem?_eq_getElem (by have := HN.out; omega)⟩
              have hy2 : M[k]? = some y := by rw [HMK.out k hle, hy]
              obtain ⟨bb, oo, hA, hbb, d0, d1, d2, d3⟩ := (HR4.out.keep HOr.out).at hy
              obtain ⟨b3, o3, hA2, hb3, g0, g1, g2, g3⟩ := (HRM.out.keep HOr.out).at hy2
              injection hA with hA
              injection hA with hA1 hA3 _
              subst hA1 hA3
              injection hA2 with hA2
              injection hA2 with hA1 hA3 _
              subst hA1 hA3
              have hneq := fun W => neqT y W
              have hki : (0 : Int) ≤ (k : Int) := by omega
              have hki2 : (k : Int) < (n : Int) + 2 := by omega
              have hki3 : (k : Int) < (N : Int) := by omega
              have hki4 : (k : Int) ≤ (n : Int) := by omega
              clear hy hy2
              go_wp2_with (fail)
              go_quiet (fail)
              go_wp2_with (fail)
              go_roundw
              case rel => exact ⟨k + 1, by go_num, by omega, by first | exact HOr.out | exact HOr.out.drewN _⟩
              case measure => simp [intOf]; omega
            · have hki4 : ¬ (k : Int) ≤ (n : Int) := by omega
              go_wp2_with (fail)
              go_ret
              exact ⟨rfl, HO4.out.trans HOr.out (by simp)⟩
end Go.Proofs.YtghofiehkdhbeaaDoor
