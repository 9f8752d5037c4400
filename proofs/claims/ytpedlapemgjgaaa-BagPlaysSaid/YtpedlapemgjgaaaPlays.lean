/- BagPlays: the law's own walk. -/
import Derived.Test.YtpedlapemgjgaaaOpen
namespace Go.Proofs.Ytpedlapemgjgaaa
open Go.RowKit Go.Kx Go.Bag
set_option maxRecDepth 100000
theorem eq_49 (a b c d : Int) (W : World) : (binOp .eql 49 (.agg #[.int .i64 a, .int .i64 b]) (.agg #[.int .i64 c, .int .i64 d])).run Try.prog W = .ok (.bool (decide (a = c ∧ b = d))) W := by
  by_cases h : a = c <;> by_cases h2 : b = d <;> simp [go_sem, h, h2]
theorem eq_49T (a b : Int) (W : World) : (binOp .eql 49 (.agg #[.int .i64 a, .int .i64 b]) (.agg #[.int .i64 a, .int .i64 b])).run Try.prog W = .ok (.bool true) W := by
  rw [eq_49, decide_eq_true ⟨rfl, rfl⟩]
theorem cntJ (L : List Ent) (x : Int) : ((behindB keyJ L x : Nat) : Int) - ((aheadB keyJ L x : Nat) : Int) = ((rcnt L x : Nat) : Int) := by
  have e : behindB keyJ L x = aheadB keyJ L x + rcnt L x := by
    unfold behindB aheadB rcnt
    induction L with
    | nil => rfl
    | cons a r ih =>
      rw [List.countP_cons, List.countP_cons, List.countP_cons, ih]
      unfold keyJ
      rcases Int.lt_trichotomy a.1 x with h | h | h
      · have h1 : a.1 ≤ x := by omega
        have h2 : (a.1 == x) = false := beq_eq_false_iff_ne.2 (by omega)
        simp [h, h1, h2]
        omega
      · subst h
        simp
        omega
      · have h1 : ¬ a.1 ≤ x := by omega
        have h2 : ¬ a.1 < x := by omega
        have h3 : (a.1 == x) = false := beq_eq_false_iff_ne.2 (by omega)
        simp [h1, h2, h3]
  omega
theorem own_keep2 {w w' : World} {B B2 n c g : Nat} {A A2 : Option Addr} {c2 : Nat} {M L : List Ent} (h : w.ownsRow B 49 2 (.slice A n c) n (flat2 M)) (hB : BBJ B2 w g L A2 c2) (o : Only [g] w w') : w'.ownsRow B 49 2 (.slice A n c) n (flat2 M) :=
  ownsRow_only o h (fun x hx hm => by
    simp at hm
    subst hm
    exact owns_ne h hB.blk (by decide) hx)
theorem plays_many {A : Option Addr} {cap : Nat} {L : List Ac} {w : World} (hl : 200 < L.length) :
    Calls Try.prog 7 #[.slice A L.length cap] w fun e w' => e = .returned (.bool true) ∧ Only [] w w' := by
  have hg : decide ((200 : Int) < (L.length : Int)) = true := by simp; omega
  go_enter Try.func7, Try.ntmps7
  go_wp2_with (fail)
  refine (awake_any _).mono ?_
  rintro e w1 ⟨rfl, o1⟩
  go_wp2_with (fail)
  refine (awake_any _).mono ?_
  rintro e w2 ⟨rfl, o2⟩
  go_wp2_with (fail)
  go_ret
  exact ⟨rfl, o1.trans o2 (by simp)⟩
set_option maxHeartbeats 8000000 in
theorem plays_few {A : Option Addr} {cap : Nat} {L : List Ac} {w : World} (hL : Acs w A L) (hl : L.length ≤ 200) :
    Calls Try.prog 7 #[.slice A L.length cap] w fun e w' => e = .returned (.bool true) ∧ Only [] w w' := by
  have hg : decide ((200 : Int) < (L.length : Int)) = false := by simp; omega
  have HL := Lib.hid hL
  clear hL
  go_enter Try.func7, Try.ntmps7
  go_wp2_with (fail)
  refine (awake_any _).mono ?_
  rintro e w1 ⟨rfl, o1⟩
  have C := newJ (w := w1) (cl := 0) (nl := 0) (M := []) (RowC.nil _ none) rfl (by omega)
  have HO1 := Lib.hid o1
  have hs1 := o1.size
  clear o1 hg
  go_wp2_with (fail)
  refine C.mono ?_
  clear C
  rintro e w2 ⟨rfl, ⟨A0, c0, hb0⟩, o2⟩
  rw [show st keyJ [] = [] from rfl] at hb0
  obtain ⟨g, hgx⟩ : ∃ g, w1.heap.size = g := ⟨_, rfl⟩
  rw [hgx] at hb0 hs1 ⊢
  have HB2 := Lib.hid (hb0.base (Nat.zero_le _))
  have HO2 := Lib.hid (HO1.out.trans o2 (by simp))
  clear hgx hb0 o2 HO1
  go_wp2_with (fail)
  go_loopw [4, 5] (fun v u wr => ∃ (i n : Nat) (M : List Ent) (Am : Option Addr) (cm : Nat) (Ab : Option Addr) (cb : Nat), v = .slice Am n cm ∧ u = .int .i64 i ∧ i ≤ L.length ∧ n ≤ i ∧ Hid (M.length = n) ∧ Hid (BBJ 0 wr g M Ab cb) ∧ Hid (wr.ownsRow w.heap.size 49 2 (.slice Am n cm) n (flat2 M)) ∧ Hid (Only [] w wr)) (fun _ u _ => L.length - (intOf u).toNat)
  case atStart => exact ⟨0, 0, [], none, 0, A0, c0, rfl, rfl, Nat.zero_le _, Nat.le_refl _, Lib.hid rfl, HB2, Lib.hid (World.ownsRow_nil _ _ _ _), HO2⟩
  case round =>
    clear HB2 HO2
    obtain ⟨wq, rfl⟩ : ∃ wq : World, wq = wr := ⟨_, rfl⟩
    obtain ⟨i, n, M, Am, cm, Ab, cb, rfl, rfl, hi, hni, HMN, HB, HM, HO⟩ := hrel
    by_cases hlt : i < L.length
    · obtain ⟨q, hq⟩ := at_some hlt
      obtain ⟨⟨hd0, hd1⟩, b, o, rfl, hb, c0, c1', c2⟩ := (HL.out.only HO.out) i q hq
      clear hq
      obtain ⟨d, x⟩ := q
      dsimp only at hd0 hd1 c0 c1' c2
      have iz0 : (0 : Int) ≤ (i : Int) := by omega
      have iz1 : (i : Int) < (L.length : Int) := by omega
      have o0 : Only [] wq (wq.alloc (.cells #[.int .i64 x.1, .int .i64 x.2] 49)) := (Only.refl [] wq).alloc _
      have hxb := Blk.new wq 49 #[.int .i64 x.1, .int .i64 x.2]
      have HB0 := Lib.hid (HB.out.keep o0)
      have HM0 := Lib.hid (ownsRow_only o0 HM.out (fun _ _ => by simp))
      have HO0 := Lib.hid (HO.out.trans o0 (by simp))
      have HX0 := Lib.hid hxb
      have HOR := Lib.hid o0
      have hgw : g < wq.heap.size := HB.out.blk.lt
      obtain ⟨x0, x1, xl⟩ := hxb.facts2
      have hn6 : M.length ≤ 1000 := by rw [HMN.out]; omega
      clear o0 hxb HB HM HO
      rcases (show d % 6 = 0 ∨ d % 6 = 1 ∨ d % 6 = 2 ∨ d % 6 = 3 ∨ d % 6 = 4 ∨ d % 6 = 5 by omega) with h8 | h8 | h8 | h8 | h8 | h8
      · as_aux_lemma =>
        go_wp2_with (fail)
        have r1 := row_newJ (wq.alloc (.cells #[.int .i64 x.1, .int .i64 x.2] 49)) x
        have o1 : Only [] (wq.alloc (.cells #[.int .i64 x.1, .int .i64 x.2] 49)) ((wq.alloc (.cells #[.int .i64 x.1, .int .i64 x.2] 49)).alloc (.cells #[.int .i64 x.1, .int .i64 x.2] 49)) := (Only.refl _ _).alloc _
        have hmp := putJ (cl := 1) (HB0.out.keep o1) r1 (nl := 1) rfl (by omega) (Nat.zero_le _)
        have hst : st keyJ (M ++ [x]) = ins keyJ x M := (st_ins HB0.out.srt).symm
        rw [hst, World.size_alloc] at hmp
        have HR1 := Lib.hid (show ∀ W, Only [g] ((wq.alloc (.cells #[.int .i64 x.1, .int .i64 x.2] 49)).alloc (.cells #[.int .i64 x.1, .int .i64 x.2] 49)) W → _ from fun W => own_keep2 (w' := W) (ownsRow_only o1 HM0.out (fun _ _ => by simp)) (HB0.out.keep o1))
        have HX1 := Lib.hid (HX0.out.alloc (.cells #[.int .i64 x.1, .int .i64 x.2] 49))
        have HO1 := Lib.hid (HO0.out.trans o1 (by simp))
        refine hmp.mono ?_
        clear hmp hst r1 o1 x0 x1 xl
        rintro e w2 ⟨rfl, ⟨A2, c2', hb2⟩, o2⟩
        have HB2 := Lib.hid hb2
        have HM2 := Lib.hid (HR1.out _ o2)
        have HX2 := Lib.hid (o2.blk HX1.out (by simp; omega))
        have HO2 := Lib.hid (HO1.out.trans o2 (fun y hy => .inr (by simp at hy; omega)))
        obtain ⟨x0, x1, xl⟩ := HX2.out.facts2
        have C := refput_any (c := cm) (own_rowC (by rw [len_flat2, HMN.out]) HM2.out) x (by omega)
        rw [HMN.out] at C
        have HC := Lib.hid C
        clear hb2 o2 C HB0 HM0 HX0 HO0 HR1 HX1 HO1
        go_wp2_with (fail)
        refine HC.out.mono ?_
        clear HC x0 x1 xl
        rintro e w3 ⟨A3, c3, rfl, how3, o3⟩
        obtain ⟨M3, hM3⟩ : ∃ M3, ins keyJ x M = M3 := ⟨_, rfl⟩
        have hl3 : M3.length = n + 1 := by rw [← hM3, ins_len, HMN.out]
        rw [hM3] at HB2 how3 ⊢
        rw [hl3] at how3 ⊢
        have HNE := Lib.hid hl3
        have HBE := Lib.hid (HB2.out.keep o3)
        have HME := Lib.hid (own_base how3 HO2.out.size)
        have HOE := Lib.hid (HO2.out.trans o3 (by simp))
        clear how3 o3 hM3 hl3 HB2 HM2 HX2 HO2
        go_wp2_with (fail)
        have CL := lenJ HBE.out
        rw [HNE.out] at CL
        refine CL.mono ?_
        clear CL
        rintro e we ⟨rfl, rfl⟩
        go_wp2_with (fail)
        refine (list_any HBE.out (by rw [HNE.out]; omega)).mono ?_
        rintro e wf ⟨Al, cl, rfl, how, of⟩
        have CS := refsame_any (l := M3) (m := M3) (c := cl) (c' := c3) (own_rowC (by rw [len_flat2, HNE.out]) (by rw [HNE.out] at how; exact how)) (own_rowC (by rw [len_flat2, HNE.out]) (ownsRow_only of HME.out (fun _ _ => by simp))) (by rw [HNE.out]; omega)
        rw [decide_eq_true rfl, HNE.out] at CS
        rw [HNE.out]
        have HCS := Lib.hid CS
        have HBF := Lib.hid (HBE.out.keep of)
        have HMF := Lib.hid (ownsRow_only of HME.out (fun _ _ => by simp))
        have HOF := Lib.hid (HOE.out.trans of (by simp))
        clear CS how of HBE HME HOE
        go_wp2_with (fail)
        refine HCS.out.mono ?_
        clear HCS
        rintro e wg ⟨rfl, og⟩
        have HBG := Lib.hid (HBF.out.keep og)
        have HMG := Lib.hid (ownsRow_only og HMF.out (fun _ _ => by simp))
        have HOG := Lib.hid (HOF.out.trans og (by simp))
        clear og HBF HMF HOF
        go_wp2_with (fail)
        go_roundw
        case rel => exact ⟨i + 1, (n + 1), M3, A3, c3, _, _, rfl, by go_num, by omega, by omega, HNE, HBG, HMG, HOG⟩
        case measure => simp [intOf]; omega
      · as_aux_lemma =>
        go_wp2_with (fail)
        have r1 := row_newJ (wq.alloc (.cells #[.int .i64 x.1, .int .i64 x.2] 49)) x
        have o1 : Only [] (wq.alloc (.cells #[.int .i64 x.1, .int .i64 x.2] 49)) ((wq.alloc (.cells #[.int .i64 x.1, .int .i64 x.2] 49)).alloc (.cells #[.int .i64 x.1, .int .i64 x.2] 49)) := (Only.refl _ _).alloc _
        have hmp := putJ (cl := 1) (HB0.out.keep o1) r1 (nl := 1) rfl (by omega) (Nat.zero_le _)
        have hst : st keyJ (M ++ [x]) = ins keyJ x M := (st_ins HB0.out.srt).symm
        rw [hst, World.size_alloc] at hmp
        have HR1 := Lib.hid (show ∀ W, Only [g] ((wq.alloc (.cells #[.int .i64 x.1, .int .i64 x.2] 49)).alloc (.cells #[.int .i64 x.1, .int .i64 x.2] 49)) W → _ from fun W => own_keep2 (w' := W) (ownsRow_only o1 HM0.out (fun _ _ => by simp)) (HB0.out.keep o1))
        have HX1 := Lib.hid (HX0.out.alloc (.cells #[.int .i64 x.1, .int .i64 x.2] 49))
        have HO1 := Lib.hid (HO0.out.trans o1 (by simp))
        refine hmp.mono ?_
        clear hmp hst r1 o1 x0 x1 xl
        rintro e w2 ⟨rfl, ⟨A2, c2', hb2⟩, o2⟩
        have HB2 := Lib.hid hb2
        have HM2 := Lib.hid (HR1.out _ o2)
        have HX2 := Lib.hid (o2.blk HX1.out (by simp; omega))
        have HO2 := Lib.hid (HO1.out.trans o2 (fun y hy => .inr (by simp at hy; omega)))
        obtain ⟨x0, x1, xl⟩ := HX2.out.facts2
        have C := refput_any (c := cm) (own_rowC (by rw [len_flat2, HMN.out]) HM2.out) x (by omega)
        rw [HMN.out] at C
        have HC := Lib.hid C
        clear hb2 o2 C HB0 HM0 HX0 HO0 HR1 HX1 HO1
        go_wp2_with (fail)
        refine HC.out.mono ?_
        clear HC x0 x1 xl
        rintro e w3 ⟨A3, c3, rfl, how3, o3⟩
        obtain ⟨M3, hM3⟩ : ∃ M3, ins keyJ x M = M3 := ⟨_, rfl⟩
        have hl3 : M3.length = n + 1 := by rw [← hM3, ins_len, HMN.out]
        rw [hM3] at HB2 how3 ⊢
        rw [hl3] at how3 ⊢
        have HNE := Lib.hid hl3
        have HBE := Lib.hid (HB2.out.keep o3)
        have HME := Lib.hid (own_base how3 HO2.out.size)
        have HOE := Lib.hid (HO2.out.trans o3 (by simp))
        clear how3 o3 hM3 hl3 HB2 HM2 HX2 HO2
        go_wp2_with (fail)
        have CL := lenJ HBE.out
        rw [HNE.out] at CL
        refine CL.mono ?_
        clear CL
        rintro e we ⟨rfl, rfl⟩
        go_wp2_with (fail)
        refine (list_any HBE.out (by rw [HNE.out]; omega)).mono ?_
        rintro e wf ⟨Al, cl, rfl, how, of⟩
        have CS := refsame_any (l := M3) (m := M3) (c := cl) (c' := c3) (own_rowC (by rw [len_flat2, HNE.out]) (by rw [HNE.out] at how; exact how)) (own_rowC (by rw [len_flat2, HNE.out]) (ownsRow_only of HME.out (fun _ _ => by simp))) (by rw [HNE.out]; omega)
        rw [decide_eq_true rfl, HNE.out] at CS
        rw [HNE.out]
        have HCS := Lib.hid CS
        have HBF := Lib.hid (HBE.out.keep of)
        have HMF := Lib.hid (ownsRow_only of HME.out (fun _ _ => by simp))
        have HOF := Lib.hid (HOE.out.trans of (by simp))
        clear CS how of HBE HME HOE
        go_wp2_with (fail)
        refine HCS.out.mono ?_
        clear HCS
        rintro e wg ⟨rfl, og⟩
        have HBG := Lib.hid (HBF.out.keep og)
        have HMG := Lib.hid (ownsRow_only og HMF.out (fun _ _ => by simp))
        have HOG := Lib.hid (HOF.out.trans og (by simp))
        clear og HBF HMF HOF
        go_wp2_with (fail)
        go_roundw
        case rel => exact ⟨i + 1, (n + 1), M3, A3, c3, _, _, rfl, by go_num, by omega, by omega, HNE, HBG, HMG, HOG⟩
        case measure => simp [intOf]; omega
      · as_aux_lemma =>
        go_wp2_with (fail)
        generalize wq.alloc (.cells #[.int .i64 x.1, .int .i64 x.2] 49) = w0 at *
        have C := refdel_any (c := cm) (own_rowC (by rw [len_flat2, HMN.out]) HM0.out) x.1 (by omega)
        rw [HMN.out] at C
        have HC := Lib.hid C
        clear C
        refine HC.out.mono ?_
        clear HC x0 x1 xl
        rintro e w2 ⟨A2, c2', rfl, how2, o2⟩
        have HB2 := Lib.hid (HB0.out.keep o2)
        have HX2 := Lib.hid (o2.blk HX0.out (by simp))
        have HO2 := Lib.hid (HO0.out.trans o2 (by simp))
        have HM2 := Lib.hid (own_base how2 HO0.out.size)
        obtain ⟨x0, x1, xl⟩ := HX2.out.facts2
        have C := dropJ HB2.out x (by omega) (Nat.zero_le _)
        rw [show hasK keyJ M (keyJ x) = rhas M x.1 from rfl, show delK keyJ M (keyJ x) = rdel M x.1 from rfl] at C
        have HC := Lib.hid C
        have hle := rdel_le M x.1
        rw [HMN.out] at hle
        obtain ⟨M3, hM3⟩ : ∃ M3, rdel M x.1 = M3 := ⟨_, rfl⟩
        obtain ⟨n3, hn3⟩ : ∃ n3, M3.length = n3 := ⟨_, rfl⟩
        rw [hM3] at HM2 HC hle ⊢
        rw [hn3] at HM2 hle ⊢
        have HNE := Lib.hid hn3
        obtain ⟨hs, hhs⟩ : ∃ hs, rhas M x.1 = hs := ⟨_, rfl⟩
        rw [hhs] at HC ⊢
        clear C how2 o2 HB0 HM0 HX0 HO0 hM3 hn3 hhs
        go_wp2_with (fail)
        refine HC.out.mono ?_
        clear HC x0 x1 xl
        rintro e w3 ⟨rfl, ⟨A3, c3, hb3⟩, o3⟩
        have HBE := Lib.hid hb3
        have HME := Lib.hid (own_keep2 HM2.out HB2.out o3)
        have HOE := Lib.hid (HO2.out.trans o3 (fun y hy => .inr (by simp at hy; omega)))
        clear hb3 o3 HB2 HM2 HX2 HO2
        go_wp2_with (fail)
        have CL := lenJ HBE.out
        rw [HNE.out] at CL
        refine CL.mono ?_
        clear CL
        rintro e we ⟨rfl, rfl⟩
        go_wp2_with (fail)
        refine (list_any HBE.out (by rw [HNE.out]; omega)).mono ?_
        rintro e wf ⟨Al, cl, rfl, how, of⟩
        have CS := refsame_any (l := M3) (m := M3) (c := cl) (c' := c2') (own_rowC (by rw [len_flat2, HNE.out]) (by rw [HNE.out] at how; exact how)) (own_rowC (by rw [len_flat2, HNE.out]) (ownsRow_only of HME.out (fun _ _ => by simp))) (by rw [HNE.out]; omega)
        rw [decide_eq_true rfl, HNE.out] at CS
        rw [HNE.out]
        have HCS := Lib.hid CS
        have HBF := Lib.hid (HBE.out.keep of)
        have HMF := Lib.hid (ownsRow_only of HME.out (fun _ _ => by simp))
        have HOF := Lib.hid (HOE.out.trans of (by simp))
        clear CS how of HBE HME HOE
        go_wp2_with (fail)
        refine HCS.out.mono ?_
        clear HCS
        rintro e wg ⟨rfl, og⟩
        have HBG := Lib.hid (HBF.out.keep og)
        have HMG := Lib.hid (ownsRow_only og HMF.out (fun _ _ => by simp))
        have HOG := Lib.hid (HOF.out.trans og (by simp))
        clear og HBF HMF HOF
        go_wp2_with (fail)
        go_roundw
        case rel => exact ⟨i + 1, n3, M3, A2, c2', _, _, rfl, by go_num, by omega, by omega, HNE, HBG, HMG, HOG⟩
        case measure => simp [intOf]; omega
      · as_aux_lemma =>
        go_wp2_with (fail)
        clear h8
        generalize wq.alloc (.cells #[.int .i64 x.1, .int .i64 x.2] 49) = w0 at *
        obtain ⟨k, hk⟩ : ∃ k, rcnt M x.1 = k := ⟨_, rfl⟩
        have HC1 := Lib.hid (fun (W : World) (o : Only [] w0 W) => countJ (HB0.out.keep o) x (by omega))
        rw [show keyJ x = x.1 from rfl, cntJ, hk] at HC1
        have HC2 := Lib.hid (fun (W : World) (o : Only [] w0 W) => refcnt_any (c := cm) (own_rowC (by rw [len_flat2, HMN.out]) (ownsRow_only o HM0.out (fun _ _ => by simp))) x.1 (by omega))
        rw [hk, HMN.out] at HC2
        have e0 : ((k : Int) == (k : Int)) = true := by simp
        clear hk
        refine wp_region_facts 8 [] (fr := ?frc) (tl := ?tlc) (fun i v wv => match i with
          | 0 => v = .pointer (some ⟨g, 0, none⟩)
          | 1 => v = .agg #[.int .i64 x.1, .int .i64 x.2]
          | 2 => v = .int .i64 (k : Nat)
          | 3 => v = .slice Am n cm
          | 4 => v = .pointer (some ⟨wq.heap.size, 0, none⟩)
          | 5 => v = .int .i64 x.1
          | 6 => v = .int .i64 (k : Nat)
          | 7 => v = .bool true
          | _ => True) (by kernel_rfl) (by kernel_rfl) (by kernel_rfl) (by kernel_rfl) (by decide) ?htlc ?hfrc ?stabc ?stepsc ?donec
        case htlc => simp only [List.drop_succ_cons, List.drop_zero]; rfl
        case hfrc => intro vals; simp only [putAll, dstAt, Act.put, List.getElem?_toArray, List.getElem?_cons_zero, List.getElem?_cons_succ, Option.bind_some, List.setIfInBounds_toArray, List.set_cons_zero, List.set_cons_succ]; rfl
        case stabc =>
          intro i v wa wb h
          try dsimp only
          split <;> first | exact id | exact id
        case stepsc =>
          refine ⟨?_, ?_, ?_, ?_, ?_, ?_, ?_, ?_, trivial⟩
          · intro vals wr hR hp K hK
            dsimp only at hK ⊢
            clear hp
            unfold RunsOp
            go_simp
            exact hK.out _ _ ⟨_, rfl, Only.refl _ _, rfl⟩
          · intro vals wr hR hp K hK
            dsimp only at hK ⊢
            clear hp
            unfold RunsOp
            have tg := hR.blk (Blk.drew HX0.out) (by simp)
            obtain ⟨k0, k1, kl⟩ := tg.facts2
            clear tg
            go_simp
            exact hK.out _ _ ⟨_, rfl, Only.refl _ _, rfl⟩
          · intro vals wr hR hp K hK
            dsimp only at hK ⊢
            obtain ⟨p0, p1, -⟩ := hp
            replace p0 := p0 rfl
            replace p1 := p1 rfl
            dsimp only at p0 p1
            rw [p0, p1] at hK ⊢
            clear p0 p1
            unfold RunsOp
            go_simp
            refine (HC1.out _ ((Only.refl [] w0).drew.trans hR (by simp))).mono ?_
            rintro e' w2 ⟨rfl, o2⟩
            exact hK.out _ _ ⟨_, rfl, o2, rfl⟩
          · intro vals wr hR hp K hK
            dsimp only at hK ⊢
            clear hp
            unfold RunsOp
            go_simp
            exact hK.out _ _ ⟨_, rfl, Only.refl _ _, rfl⟩
          · intro vals wr hR hp K hK
            dsimp only at hK ⊢
            clear hp
            unfold RunsOp
            go_simp
            exact hK.out _ _ ⟨_, rfl, Only.refl _ _, rfl⟩
          · intro vals wr hR hp K hK
            dsimp only at hK ⊢
            obtain ⟨p4, -⟩ := hp
            replace p4 := p4 rfl
            dsimp only at p4
            rw [p4] at hK ⊢
            clear p4
            unfold RunsOp
            have tg := hR.blk (Blk.drew HX0.out) (by simp)
            obtain ⟨k0, k1, kl⟩ := tg.facts2
            clear tg
            go_simp
            exact hK.out _ _ ⟨_, rfl, Only.refl _ _, rfl⟩
          · intro vals wr hR hp K hK
            dsimp only at hK ⊢
            obtain ⟨p3, p5, -, -⟩ := hp
            replace p3 := p3 rfl
            replace p5 := p5 rfl
            dsimp only at p3 p5
            rw [p3, p5] at hK ⊢
            clear p3 p5
            unfold RunsOp
            go_simp
            refine (HC2.out _ ((Only.refl [] w0).drew.trans hR (by simp))).mono ?_
            rintro e' w2 ⟨rfl, o2⟩
            exact hK.out _ _ ⟨_, rfl, o2, rfl⟩
          · intro vals wr hR hp K hK
            dsimp only at hK ⊢
            obtain ⟨p2, p6, -⟩ := hp
            replace p2 := p2 rfl
            replace p6 := p6 rfl
            dsimp only at p2 p6
            rw [p2, p6] at hK ⊢
            clear p2 p6
            unfold RunsOp
            go_simp
            exact hK.out _ _ ⟨_, rfl, Only.refl _ _, rfl⟩
        case donec =>
          intro vals wd hR hF
          have f0 : vals 0 = .pointer (some ⟨g, 0, none⟩) := hF 0 (by decide)
          have f1 : vals 1 = .agg #[.int .i64 x.1, .int .i64 x.2] := hF 1 (by decide)
          have f2 : (vals 2) = .int .i64 (k : Nat) := hF 2 (by decide)
          have f3 : vals 3 = .slice Am n cm := hF 3 (by decide)
          have f4 : vals 4 = .pointer (some ⟨wq.heap.size, 0, none⟩) := hF 4 (by decide)
          have f5 : vals 5 = .int .i64 x.1 := hF 5 (by decide)
          have f6 : (vals 6) = .int .i64 (k : Nat) := hF 6 (by decide)
          have f7 : vals 7 = .bool true := hF 7 (by decide)
          rw [f0, f1, f3, f4, f5, f7]
          clear f0 f1 f3 f4 f5 f7
          rw [f2, f6]
          clear f2 f6
          have HOd := Lib.hid ((Only.refl [] w0).drew.trans hR (by simp))
          clear hR hF x0 x1 xl
          have HBE := Lib.hid (HB0.out.keep HOd.out)
          have HME := Lib.hid (ownsRow_only HOd.out HM0.out (fun _ _ => by simp))
          have HOE := Lib.hid (HO0.out.trans HOd.out (by simp))
          have HNE := HMN
          clear HB0 HM0 HX0 HO0 HC1 HC2
          go_wp2_with (fail)
          have CL := lenJ HBE.out
          rw [HNE.out] at CL
          refine CL.mono ?_
          clear CL
          rintro e we ⟨rfl, rfl⟩
          go_wp2_with (fail)
          refine (list_any HBE.out (by rw [HNE.out]; omega)).mono ?_
          rintro e wf ⟨Al, cl, rfl, how, of⟩
          have CS := refsame_any (l := M) (m := M) (c := cl) (c' := cm) (own_rowC (by rw [len_flat2, HNE.out]) (by rw [HNE.out] at how; exact how)) (own_rowC (by rw [len_flat2, HNE.out]) (ownsRow_only of HME.out (fun _ _ => by simp))) (by rw [HNE.out]; omega)
          rw [decide_eq_true rfl, HNE.out] at CS
          rw [HNE.out]
          have HCS := Lib.hid CS
          have HBF := Lib.hid (HBE.out.keep of)
          have HMF := Lib.hid (ownsRow_only of HME.out (fun _ _ => by simp))
          have HOF := Lib.hid (HOE.out.trans of (by simp))
          clear CS how of HBE HME HOE
          go_wp2_with (fail)
          refine HCS.out.mono ?_
          clear HCS
          rintro e wg ⟨rfl, og⟩
          have HBG := Lib.hid (HBF.out.keep og)
          have HMG := Lib.hid (ownsRow_only og HMF.out (fun _ _ => by simp))
          have HOG := Lib.hid (HOF.out.trans og (by simp))
          clear og HBF HMF HOF
          go_wp2_with (fail)
          go_roundw
          case rel => exact ⟨i + 1, n, M, Am, cm, _, _, rfl, by go_num, by omega, by omega, HNE, HBG, HMG, HOG⟩
          case measure => simp [intOf]; omega
      · as_aux_lemma =>
        obtain ⟨z, x2⟩ := x
        try dsimp only at x0 x1 c1' c2 HX0
        go_wp2_with (fail)
        try dsimp only at HB0 HM0 HO0 HOR xl ⊢
        generalize wq.alloc (.cells #[.int .i64 z, .int .i64 x2] 49) = w0 at *
        clear h8 c0 c1' c2
        by_cases hz : 0 ≤ z ∧ z < (n : Int)
        · obtain ⟨k, rfl⟩ : ∃ k : Nat, z = (k : Int) := ⟨z.toNat, by omega⟩
          have hkn : k < n := by omega
          obtain ⟨y, hy⟩ := at_some (L := M) (i := k) (by rw [HMN.out]; exact hkn)
          have HAT := atJ HB0.out hy
          have HY := Lib.hid hy
          have e1 : decide ((0 : Int) ≤ (k : Int)) = true := decide_eq_true (by omega)
          have e2 : decide ((k : Int) < (n : Int)) = true := decide_eq_true (by omega)
          have e3 : (0 : Int) ≤ (k : Int) := by omega
          have e4 : (k : Int) < (n : Int) := by omega
          have hq := fun W => eq_49T y.1 y.2 W
          clear hy hz
          refine HAT.mono ?_
          clear HAT x0 x1 xl
          rintro e w2 ⟨rfl, o2⟩
          have HB3 := Lib.hid ((HB0.out.keep o2).keep ((Only.refl [] w2).alloc (.cells #[.int .i64 y.1, .int .i64 y.2] 49)))
          have HX3 := Lib.hid ((o2.blk HX0.out (by simp)).alloc (.cells #[.int .i64 y.1, .int .i64 y.2] 49))
          have HM3 := Lib.hid (ownsRow_only ((Only.refl [] w2).alloc (.cells #[.int .i64 y.1, .int .i64 y.2] 49)) (ownsRow_only o2 HM0.out (fun _ _ => by simp)) (fun _ _ => by simp))
          have HO3 := Lib.hid ((HO0.out.trans o2 (by simp)).trans ((Only.refl [] w2).alloc (.cells #[.int .i64 y.1, .int .i64 y.2] 49)) (by simp))
          have hyb := Blk.new w2 49 #[.int .i64 y.1, .int .i64 y.2]
          obtain ⟨x0, x1, xl⟩ := HX3.out.facts2
          obtain ⟨y0, y1, yl⟩ := hyb.facts2
          clear o2 hyb HB0 HX0 HM0 HO0
          obtain ⟨qb, qo, rfl, ql, m0, m1⟩ := rowJ (own_rowC (by rw [len_flat2, HMN.out]) HM3.out) HY.out
          go_wp2_with (fail)
          go_quiet (fail)
          generalize hW : World.drewN _ _ = W1
          have oW : Only [] (w2.alloc (.cells #[.int .i64 y.1, .int .i64 y.2] 49)) W1 := by rw [← hW]; exact (Only.refl _ _).drewN _
          have HBE := Lib.hid (HB3.out.keep oW)
          have HME := Lib.hid (ownsRow_only oW HM3.out (fun _ _ => by simp))
          have HOE := Lib.hid (HO3.out.trans oW (by simp))
          have HNE := HMN
          clear x0 x1 xl y0 y1 yl m0 m1 hW oW HB3 HM3 HX3 HO3 ql hq e1 e2
          go_wp2_with (fail)
          have CL := lenJ HBE.out
          rw [HNE.out] at CL
          refine CL.mono ?_
          clear CL
          rintro e we ⟨rfl, rfl⟩
          go_wp2_with (fail)
          refine (list_any HBE.out (by rw [HNE.out]; omega)).mono ?_
          rintro e wf ⟨Al, cl, rfl, how, of⟩
          have CS := refsame_any (l := M) (m := M) (c := cl) (c' := cm) (own_rowC (by rw [len_flat2, HNE.out]) (by rw [HNE.out] at how; exact how)) (own_rowC (by rw [len_flat2, HNE.out]) (ownsRow_only of HME.out (fun _ _ => by simp))) (by rw [HNE.out]; omega)
          rw [decide_eq_true rfl, HNE.out] at CS
          rw [HNE.out]
          have HCS := Lib.hid CS
          have HBF := Lib.hid (HBE.out.keep of)
          have HMF := Lib.hid (ownsRow_only of HME.out (fun _ _ => by simp))
          have HOF := Lib.hid (HOE.out.trans of (by simp))
          clear CS how of HBE HME HOE
          go_wp2_with (fail)
          refine HCS.out.mono ?_
          clear HCS
          rintro e wg ⟨rfl, og⟩
          have HBG := Lib.hid (HBF.out.keep og)
          have HMG := Lib.hid (ownsRow_only og HMF.out (fun _ _ => by simp))
          have HOG := Lib.hid (HOF.out.trans og (by simp))
          clear og HBF HMF HOF
          go_wp2_with (fail)
          go_roundw
          case rel => exact ⟨i + 1, n, M, (some ⟨qb, qo, none⟩), cm, _, _, rfl, by go_num, by omega, by omega, HNE, HBG, HMG, HOG⟩
          case measure => simp [intOf]; omega
        · have hor : z < 0 ∨ (M.length : Int) ≤ z := by rw [HMN.out]; omega
          have HAT := atoutJ HB0.out hor
          have hq := fun W => eq_49T 0 0 W
          clear hor
          refine HAT.mono ?_
          clear HAT x0 x1 xl
          rintro e w2 ⟨rfl, o2⟩
          have HB3 := Lib.hid ((HB0.out.keep o2).keep ((Only.refl [] w2).alloc (.cells #[.int .i64 0, .int .i64 0] 49)))
          have HX3 := Lib.hid ((o2.blk HX0.out (by simp)).alloc (.cells #[.int .i64 0, .int .i64 0] 49))
          have HM3 := Lib.hid (ownsRow_only ((Only.refl [] w2).alloc (.cells #[.int .i64 0, .int .i64 0] 49)) (ownsRow_only o2 HM0.out (fun _ _ => by simp)) (fun _ _ => by simp))
          have HO3 := Lib.hid ((HO0.out.trans o2 (by simp)).trans ((Only.refl [] w2).alloc (.cells #[.int .i64 0, .int .i64 0] 49)) (by simp))
          have hyb := Blk.new w2 49 #[.int .i64 0, .int .i64 0]
          obtain ⟨x0, x1, xl⟩ := HX3.out.facts2
          obtain ⟨y0, y1, yl⟩ := hyb.facts2
          clear o2 hyb HB0 HX0 HM0 HO0
          by_cases hz2 : 0 ≤ z
          · have e1 : decide ((0 : Int) ≤ z) = true := decide_eq_true hz2
            have e2 : decide (z < (n : Int)) = false := decide_eq_false (by omega)
            clear hz
            have HBE := HB3
            have HME := HM3
            have HOE := HO3
            have HNE := HMN
            clear HB3 HM3 HX3 HO3
            go_wp2_with (fail)
            have CL := lenJ HBE.out
            rw [HNE.out] at CL
            refine CL.mono ?_
            clear CL
            rintro e we ⟨rfl, rfl⟩
            go_wp2_with (fail)
            refine (list_any HBE.out (by rw [HNE.out]; omega)).mono ?_
            rintro e wf ⟨Al, cl, rfl, how, of⟩
            have CS := refsame_any (l := M) (m := M) (c := cl) (c' := cm) (own_rowC (by rw [len_flat2, HNE.out]) (by rw [HNE.out] at how; exact how)) (own_rowC (by rw [len_flat2, HNE.out]) (ownsRow_only of HME.out (fun _ _ => by simp))) (by rw [HNE.out]; omega)
            rw [decide_eq_true rfl, HNE.out] at CS
            rw [HNE.out]
            have HCS := Lib.hid CS
            have HBF := Lib.hid (HBE.out.keep of)
            have HMF := Lib.hid (ownsRow_only of HME.out (fun _ _ => by simp))
            have HOF := Lib.hid (HOE.out.trans of (by simp))
            clear CS how of HBE HME HOE
            go_wp2_with (fail)
            refine HCS.out.mono ?_
            clear HCS
            rintro e wg ⟨rfl, og⟩
            have HBG := Lib.hid (HBF.out.keep og)
            have HMG := Lib.hid (ownsRow_only og HMF.out (fun _ _ => by simp))
            have HOG := Lib.hid (HOF.out.trans og (by simp))
            clear og HBF HMF HOF
            go_wp2_with (fail)
            go_roundw
            case rel => exact ⟨i + 1, n, M, Am, cm, _, _, rfl, by go_num, by omega, by omega, HNE, HBG, HMG, HOG⟩
            case measure => simp [intOf]; omega
          · have e1 : decide ((0 : Int) ≤ z) = false := decide_eq_false hz2
            clear hz
            have HBE := HB3
            have HME := HM3
            have HOE := HO3
            have HNE := HMN
            clear HB3 HM3 HX3 HO3
            go_wp2_with (fail)
            have CL := lenJ HBE.out
            rw [HNE.out] at CL
            refine CL.mono ?_
            clear CL
            rintro e we ⟨rfl, rfl⟩
            go_wp2_with (fail)
            refine (list_any HBE.out (by rw [HNE.out]; omega)).mono ?_
            rintro e wf ⟨Al, cl, rfl, how, of⟩
            have CS := refsame_any (l := M) (m := M) (c := cl) (c' := cm) (own_rowC (by rw [len_flat2, HNE.out]) (by rw [HNE.out] at how; exact how)) (own_rowC (by rw [len_flat2, HNE.out]) (ownsRow_only of HME.out (fun _ _ => by simp))) (by rw [HNE.out]; omega)
            rw [decide_eq_true rfl, HNE.out] at CS
            rw [HNE.out]
            have HCS := Lib.hid CS
            have HBF := Lib.hid (HBE.out.keep of)
            have HMF := Lib.hid (ownsRow_only of HME.out (fun _ _ => by simp))
            have HOF := Lib.hid (HOE.out.trans of (by simp))
            clear CS how of HBE HME HOE
            go_wp2_with (fail)
            refine HCS.out.mono ?_
            clear HCS
            rintro e wg ⟨rfl, og⟩
            have HBG := Lib.hid (HBF.out.keep og)
            have HMG := Lib.hid (ownsRow_only og HMF.out (fun _ _ => by simp))
            have HOG := Lib.hid (HOF.out.trans og (by simp))
            clear og HBF HMF HOF
            go_wp2_with (fail)
            go_roundw
            case rel => exact ⟨i + 1, n, M, Am, cm, _, _, rfl, by go_num, by omega, by omega, HNE, HBG, HMG, HOG⟩
            case measure => simp [intOf]; omega
      · as_aux_lemma =>
        go_wp2_with (fail)
        clear h8 c0 c1' c2
        have b1 : Blk ((wq.alloc (.cells #[.int .i64 x.1, .int .i64 x.2] 49)).alloc (.cells #[.int .i64 x.1, .int .i64 x.2, .int .i64 x.1, .int .i64 x.2] 49)) (wq.alloc (.cells #[.int .i64 x.1, .int .i64 x.2] 49)).heap.size 49 (flat2 [x, x]).toArray := Blk.new (wq.alloc (.cells #[.int .i64 x.1, .int .i64 x.2] 49)) 49 _
        have o1 : Only [] (wq.alloc (.cells #[.int .i64 x.1, .int .i64 x.2] 49)) ((wq.alloc (.cells #[.int .i64 x.1, .int .i64 x.2] 49)).alloc (.cells #[.int .i64 x.1, .int .i64 x.2, .int .i64 x.1, .int .i64 x.2] 49)) := (Only.refl _ _).alloc _
        rw [World.size_alloc] at b1
        obtain ⟨W1, hW1⟩ : ∃ W1, ((wq.alloc (.cells #[.int .i64 x.1, .int .i64 x.2] 49)).alloc (.cells #[.int .i64 x.1, .int .i64 x.2, .int .i64 x.1, .int .i64 x.2] 49)) = W1 := ⟨_, rfl⟩
        rw [hW1] at o1 b1 ⊢
        clear hW1
        have HB1 := Lib.hid (HB0.out.keep o1)
        have HX1 := Lib.hid (o1.blk HX0.out (by simp))
        have HM1 := Lib.hid (ownsRow_only o1 HM0.out (fun _ _ => by simp))
        have HO1 := Lib.hid (HO0.out.trans o1 (by simp))
        have C := newJ (cl := 2) (blk_row2 b1) (nl := 2) rfl (by omega)
        obtain ⟨gn, hgn⟩ : ∃ gn, W1.heap.size = gn := ⟨_, rfl⟩
        rw [hgn] at C
        have HC := Lib.hid C
        clear C b1 o1 HB0 HX0 HM0 HO0 x0 x1 xl hgn
        refine HC.out.mono ?_
        clear HC
        rintro e w2 ⟨rfl, ⟨An, cn, hbn⟩, o2⟩
        have HB2 := Lib.hid (HB1.out.keep o2)
        have HX2 := Lib.hid (o2.blk HX1.out (by simp))
        have HM2 := Lib.hid (ownsRow_only o2 HM1.out (fun _ _ => by simp))
        have HO2 := Lib.hid (HO1.out.trans o2 (by simp))
        have C := mergeJ HB2.out hbn (by rw [st_len]; simp; omega)
        obtain ⟨N, hN⟩ : ∃ N, st keyJ (M ++ st keyJ [x, x]) = N := ⟨_, rfl⟩
        have HN2 := Lib.hid (show ins keyJ x (ins keyJ x M) = N by
          rw [← hN, st_app2, st_ins (ins_sorted HB2.out.srt), st_ins HB2.out.srt, st_app, List.append_assoc]
          rfl)
        have HNL := Lib.hid (show N.length = n + 2 by rw [← HN2.out, ins_len, ins_len, HMN.out])
        have HIL := Lib.hid (show (ins keyJ x M).length = n + 1 by rw [ins_len, HMN.out])
        have HNE2 := Lib.hid (show M.map keyJ ≠ N.map keyJ from fun h => by
          have h2 := congrArg List.length h
          simp only [List.length_map] at h2
          rw [HMN.out, HNL.out] at h2
          omega)
        rw [hN] at C
        have HC := Lib.hid C
        clear C o2 hN hbn HB1 HX1 HM1 HO1
        go_wp2_with (fail)
        refine HC.out.mono ?_
        clear HC
        rintro e w3 ⟨gc, Ac_, cc_, rfl, -, hc3, o3⟩
        have HC3 := Lib.hid (hc3.base (Nat.zero_le _))
        have HB3 := Lib.hid (HB2.out.keep o3)
        have HX3 := Lib.hid (o3.blk HX2.out (by simp))
        have HM3 := Lib.hid (ownsRow_only o3 HM2.out (fun _ _ => by simp))
        have HO3 := Lib.hid (HO2.out.trans o3 (by simp))
        clear hc3 o3 HB2 HX2 HM2 HO2
        go_wp2_with (fail)
        refine wp_region_facts 19 [] (fr := ?frm) (tl := ?tlm) (fun i v wv => match i with
          | 0 => v = .pointer (some ⟨gc, 0, none⟩)
          | 1 => ∃ A' c', v = .slice A' (n + 2) c' ∧ wv.ownsRow 0 49 2 (.slice A' (n + 2) c') (n + 2) (flat2 (N))
          | 2 => v = .slice Am n cm
          | 3 => v = .agg #[.int .i64 x.1, .int .i64 x.2]
          | 4 => ∃ A' c', v = .slice A' (n + 1) c' ∧ wv.ownsRow 0 49 2 (.slice A' (n + 1) c') (n + 1) (flat2 (ins keyJ x M))
          | 5 => v = .agg #[.int .i64 x.1, .int .i64 x.2]
          | 6 => ∃ A' c', v = .slice A' (n + 2) c' ∧ wv.ownsRow 0 49 2 (.slice A' (n + 2) c') (n + 2) (flat2 (N))
          | 7 => v = .bool true
          | 8 => v = .bool true
          | 9 => v = .pointer (some ⟨g, 0, none⟩)
          | 10 => v = .pointer (some ⟨gc, 0, none⟩)
          | 11 => v = .bool false
          | 12 => v = .bool true
          | 13 => v = .bool true
          | 14 => v = .bool true
          | 15 => v = .pointer (some ⟨g, 0, none⟩)
          | 16 => v = .pointer (some ⟨g, 0, none⟩)
          | 17 => v = .bool true
          | 18 => v = .bool true
          | _ => True) (by kernel_rfl) (by kernel_rfl) (by kernel_rfl) (by kernel_rfl) (by decide) ?htlm ?hfrm ?stabm ?stepsm ?donem
        case htlm => simp only [List.drop_succ_cons, List.drop_zero]; rfl
        case hfrm => intro vals; simp only [putAll, dstAt, Act.put, List.getElem?_toArray, List.getElem?_cons_zero, List.getElem?_cons_succ, Option.bind_some, List.setIfInBounds_toArray, List.set_cons_zero, List.set_cons_succ]; rfl
        case stabm =>
          intro i v wa wb h
          try dsimp only
          split <;> first | exact id | (rintro ⟨A', c', h1, h2⟩; exact ⟨A', c', h1, ownsRow_only h h2 (fun _ _ => by simp)⟩)
        case stepsm =>
          refine ⟨?_, ?_, ?_, ?_, ?_, ?_, ?_, ?_, ?_, ?_, ?_, ?_, ?_, ?_, ?_, ?_, ?_, ?_, ?_, trivial⟩
          · intro vals wr hR hp K hK
            dsimp only at hK ⊢
            clear hp
            unfold RunsOp
            go_simp
            exact hK.out _ _ ⟨_, rfl, Only.refl _ _, rfl⟩
          · intro vals wr hR hp K hK
            dsimp only at hK ⊢
            obtain ⟨p0, -⟩ := hp
            replace p0 := p0 rfl
            dsimp only at p0
            rw [p0] at hK ⊢
            clear p0
            unfold RunsOp
            go_simp
            refine (list_any (HC3.out.keep ((Only.refl [] w3).drew.trans hR (by simp))) (by rw [HNL.out]; omega)).mono ?_
            rintro e' w2 ⟨A', c', rfl, ho, o2⟩
            rw [HNL.out] at ho ⊢
            exact hK.out _ _ ⟨_, rfl, o2, A', c', rfl, own_base ho (Nat.zero_le _)⟩
          · intro vals wr hR hp K hK
            dsimp only at hK ⊢
            clear hp
            unfold RunsOp
            go_simp
            exact hK.out _ _ ⟨_, rfl, Only.refl _ _, rfl⟩
          · intro vals wr hR hp K hK
            dsimp only at hK ⊢
            clear hp
            unfold RunsOp
            have tg := hR.blk (Blk.drew HX3.out) (by simp)
            obtain ⟨k0, k1, kl⟩ := tg.facts2
            clear tg
            go_simp
            exact hK.out _ _ ⟨_, rfl, Only.refl _ _, rfl⟩
          · intro vals wr hR hp K hK
            dsimp only at hK ⊢
            obtain ⟨p2, p3, -, -⟩ := hp
            replace p2 := p2 rfl
            replace p3 := p3 rfl
            dsimp only at p2 p3
            rw [p2, p3] at hK ⊢
            clear p2 p3
            unfold RunsOp
            go_simp
            have C := refput_any (c := cm) (own_rowC (by rw [len_flat2, HMN.out]) (ownsRow_only ((Only.refl [] w3).drew.trans hR (by simp)) HM3.out (fun _ _ => by simp))) x (by omega)
            rw [HMN.out] at C
            refine C.mono ?_
            rintro e' w2 ⟨A', c', rfl, ho, o2⟩
            rw [HIL.out] at ho ⊢
            exact hK.out _ _ ⟨_, rfl, o2, A', c', rfl, own_base ho (Nat.zero_le _)⟩
          · intro vals wr hR hp K hK
            dsimp only at hK ⊢
            clear hp
            unfold RunsOp
            have tg := hR.blk (Blk.drew HX3.out) (by simp)
            obtain ⟨k0, k1, kl⟩ := tg.facts2
            clear tg
            go_simp
            exact hK.out _ _ ⟨_, rfl, Only.refl _ _, rfl⟩
          · intro vals wr hR hp K hK
            dsimp only at hK ⊢
            obtain ⟨p4, p5, -, -⟩ := hp
            replace p4 := p4 rfl
            replace p5 := p5 rfl
            dsimp only at p4 p5
            obtain ⟨A4, c4, p4, ho4⟩ := p4
            rw [p4, p5] at hK ⊢
            clear p4 p5
            unfold RunsOp
            go_simp
            have C := refput_any (l := ins keyJ x M) (c := c4) (own_rowC (by rw [len_flat2, HIL.out]) ho4) x (by rw [HIL.out]; omega)
            rw [HIL.out, HN2.out] at C
            refine C.mono ?_
            rintro e' w2 ⟨A', c', rfl, ho, o2⟩
            rw [HNL.out] at ho ⊢
            exact hK.out _ _ ⟨_, rfl, o2, A', c', rfl, own_base ho (Nat.zero_le _)⟩
          · intro vals wr hR hp K hK
            dsimp only at hK ⊢
            obtain ⟨p1, p6, -, -⟩ := hp
            replace p1 := p1 rfl
            replace p6 := p6 rfl
            dsimp only at p1 p6
            obtain ⟨A1, c1, p1, ho1⟩ := p1
            obtain ⟨A6, c6, p6, ho6⟩ := p6
            rw [p1, p6] at hK ⊢
            clear p1 p6
            unfold RunsOp
            go_simp
            have C := refsame_any (l := N) (m := N) (c := c1) (c' := c6) (own_rowC (by rw [len_flat2, HNL.out]) ho1) (own_rowC (by rw [len_flat2, HNL.out]) ho6) (by rw [HNL.out]; omega)
            rw [decide_eq_true rfl, HNL.out] at C
            refine C.mono ?_
            rintro e' w2 ⟨rfl, o2⟩
            exact hK.out _ _ ⟨_, rfl, o2, rfl⟩
          · intro vals wr hR hp K hK
            dsimp only at hK ⊢
            obtain ⟨p7, -, -⟩ := hp
            replace p7 := p7 rfl
            dsimp only at p7
            rw [p7] at hK ⊢
            clear p7
            unfold RunsOp
            go_simp
            exact hK.out _ _ ⟨_, rfl, Only.refl _ _, rfl⟩
          · intro vals wr hR hp K hK
            dsimp only at hK ⊢
            obtain ⟨p8, -⟩ := hp
            replace p8 := p8 rfl
            dsimp only at p8
            rw [p8] at hK ⊢
            clear p8
            unfold RunsOp
            go_simp
            exact hK.out _ _ ⟨_, rfl, Only.refl _ _, rfl⟩
          · intro vals wr hR hp K hK
            dsimp only at hK ⊢
            obtain ⟨p8, -⟩ := hp
            replace p8 := p8 rfl
            dsimp only at p8
            rw [p8] at hK ⊢
            clear p8
            unfold RunsOp
            go_simp
            exact hK.out _ _ ⟨_, rfl, Only.refl _ _, rfl⟩
          · intro vals wr hR hp K hK
            dsimp only at hK ⊢
            obtain ⟨p9, p10, p8, -, -⟩ := hp
            replace p9 := p9 rfl
            replace p10 := p10 rfl
            replace p8 := p8 rfl
            dsimp only at p9 p10 p8
            rw [p9, p10, p8] at hK ⊢
            clear p9 p10 p8
            unfold RunsOp
            go_simp
            have C := sameJ (HB3.out.keep ((Only.refl [] w3).drew.trans hR (by simp))) (HC3.out.keep ((Only.refl [] w3).drew.trans hR (by simp))) (by omega) (by rw [HNL.out]; omega)
            rw [decide_eq_false HNE2.out] at C
            refine C.mono ?_
            rintro e' w2 ⟨rfl, o2⟩
            exact hK.out _ _ ⟨_, rfl, o2, rfl⟩
          · intro vals wr hR hp K hK
            dsimp only at hK ⊢
            obtain ⟨p11, p8, -⟩ := hp
            replace p11 := p11 rfl
            replace p8 := p8 rfl
            dsimp only at p11 p8
            rw [p11, p8] at hK ⊢
            clear p11 p8
            unfold RunsOp
            go_simp
            exact hK.out _ _ ⟨_, rfl, Only.refl _ _, rfl⟩
          · intro vals wr hR hp K hK
            dsimp only at hK ⊢
            obtain ⟨p8, p12, -⟩ := hp
            replace p8 := p8 rfl
            replace p12 := p12 rfl
            dsimp only at p8 p12
            rw [p8, p12] at hK ⊢
            clear p8 p12
            unfold RunsOp
            go_simp
            exact hK.out _ _ ⟨_, rfl, Only.refl _ _, rfl⟩
          · intro vals wr hR hp K hK
            dsimp only at hK ⊢
            obtain ⟨p13, -, -⟩ := hp
            replace p13 := p13 rfl
            dsimp only at p13
            rw [p13] at hK ⊢
            clear p13
            unfold RunsOp
            go_simp
            exact hK.out _ _ ⟨_, rfl, Only.refl _ _, rfl⟩
          · intro vals wr hR hp K hK
            dsimp only at hK ⊢
            obtain ⟨p14, -⟩ := hp
            replace p14 := p14 rfl
            dsimp only at p14
            rw [p14] at hK ⊢
            clear p14
            unfold RunsOp
            go_simp
            exact hK.out _ _ ⟨_, rfl, Only.refl _ _, rfl⟩
          · intro vals wr hR hp K hK
            dsimp only at hK ⊢
            obtain ⟨p14, -⟩ := hp
            replace p14 := p14 rfl
            dsimp only at p14
            rw [p14] at hK ⊢
            clear p14
            unfold RunsOp
            go_simp
            exact hK.out _ _ ⟨_, rfl, Only.refl _ _, rfl⟩
          · intro vals wr hR hp K hK
            dsimp only at hK ⊢
            obtain ⟨p15, p16, p14, -, -⟩ := hp
            replace p15 := p15 rfl
            replace p16 := p16 rfl
            replace p14 := p14 rfl
            dsimp only at p15 p16 p14
            rw [p15, p16, p14] at hK ⊢
            clear p15 p16 p14
            unfold RunsOp
            go_simp
            have C := sameJ (HB3.out.keep ((Only.refl [] w3).drew.trans hR (by simp))) (HB3.out.keep ((Only.refl [] w3).drew.trans hR (by simp))) (by omega) (by omega)
            rw [decide_eq_true rfl] at C
            refine C.mono ?_
            rintro e' w2 ⟨rfl, o2⟩
            exact hK.out _ _ ⟨_, rfl, o2, rfl⟩
          · intro vals wr hR hp K hK
            dsimp only at hK ⊢
            obtain ⟨p14, p17, -⟩ := hp
            replace p14 := p14 rfl
            replace p17 := p17 rfl
            dsimp only at p14 p17
            rw [p14, p17] at hK ⊢
            clear p14 p17
            unfold RunsOp
            go_simp
            exact hK.out _ _ ⟨_, rfl, Only.refl _ _, rfl⟩
        case donem =>
          intro vals wd hR hF
          have f0 : vals 0 = .pointer (some ⟨gc, 0, none⟩) := hF 0 (by decide)
          have f1 : ∃ A' c', (vals 1) = .slice A' (n + 2) c' ∧ wd.ownsRow 0 49 2 (.slice A' (n + 2) c') (n + 2) (flat2 (N)) := hF 1 (by decide)
          have f2 : vals 2 = .slice Am n cm := hF 2 (by decide)
          have f3 : vals 3 = .agg #[.int .i64 x.1, .int .i64 x.2] := hF 3 (by decide)
          have f4 : ∃ A' c', (vals 4) = .slice A' (n + 1) c' ∧ wd.ownsRow 0 49 2 (.slice A' (n + 1) c') (n + 1) (flat2 (ins keyJ x M)) := hF 4 (by decide)
          have f5 : vals 5 = .agg #[.int .i64 x.1, .int .i64 x.2] := hF 5 (by decide)
          have f6 : ∃ A' c', (vals 6) = .slice A' (n + 2) c' ∧ wd.ownsRow 0 49 2 (.slice A' (n + 2) c') (n + 2) (flat2 (N)) := hF 6 (by decide)
          have f7 : (vals 7) = .bool true := hF 7 (by decide)
          have f8 : vals 8 = .bool true := hF 8 (by decide)
          have f9 : vals 9 = .pointer (some ⟨g, 0, none⟩) := hF 9 (by decide)
          have f10 : vals 10 = .pointer (some ⟨gc, 0, none⟩) := hF 10 (by decide)
          have f11 : (vals 11) = .bool false := hF 11 (by decide)
          have f12 : vals 12 = .bool true := hF 12 (by decide)
          have f13 : vals 13 = .bool true := hF 13 (by decide)
          have f14 : vals 14 = .bool true := hF 14 (by decide)
          have f15 : vals 15 = .pointer (some ⟨g, 0, none⟩) := hF 15 (by decide)
          have f16 : vals 16 = .pointer (some ⟨g, 0, none⟩) := hF 16 (by decide)
          have f17 : (vals 17) = .bool true := hF 17 (by decide)
          have f18 : vals 18 = .bool true := hF 18 (by decide)
          rw [f0, f2, f3, f5, f8, f9, f10, f12, f13, f14, f15, f16, f18]
          clear f0 f2 f3 f5 f8 f9 f10 f12 f13 f14 f15 f16 f18
          have HOd := Lib.hid ((Only.refl [] w3).drew.trans hR (by simp))
          obtain ⟨A1, c1, f1, -⟩ := f1
          obtain ⟨A4, c4, f4, -⟩ := f4
          obtain ⟨A6, c6, f6, -⟩ := f6
          rw [f1, f4, f6, f7, f11, f17]
          clear f1 f4 f6 f7 f11 f17
          clear hR hF
          have HBE := Lib.hid (HB3.out.keep HOd.out)
          have HME := Lib.hid (ownsRow_only HOd.out HM3.out (fun _ _ => by simp))
          have HOE := Lib.hid (HO3.out.trans HOd.out (by simp))
          have HNE := HMN
          clear HB3 HM3 HX3 HO3 HC3 HN2 HNL HIL HNE2
          go_wp2_with (fail)
          have CL := lenJ HBE.out
          rw [HNE.out] at CL
          refine CL.mono ?_
          clear CL
          rintro e we ⟨rfl, rfl⟩
          go_wp2_with (fail)
          refine (list_any HBE.out (by rw [HNE.out]; omega)).mono ?_
          rintro e wf ⟨Al, cl, rfl, how, of⟩
          have CS := refsame_any (l := M) (m := M) (c := cl) (c' := cm) (own_rowC (by rw [len_flat2, HNE.out]) (by rw [HNE.out] at how; exact how)) (own_rowC (by rw [len_flat2, HNE.out]) (ownsRow_only of HME.out (fun _ _ => by simp))) (by rw [HNE.out]; omega)
          rw [decide_eq_true rfl, HNE.out] at CS
          rw [HNE.out]
          have HCS := Lib.hid CS
          have HBF := Lib.hid (HBE.out.keep of)
          have HMF := Lib.hid (ownsRow_only of HME.out (fun _ _ => by simp))
          have HOF := Lib.hid (HOE.out.trans of (by simp))
          clear CS how of HBE HME HOE
          go_wp2_with (fail)
          refine HCS.out.mono ?_
          clear HCS
          rintro e wg ⟨rfl, og⟩
          have HBG := Lib.hid (HBF.out.keep og)
          have HMG := Lib.hid (ownsRow_only og HMF.out (fun _ _ => by simp))
          have HOG := Lib.hid (HOF.out.trans og (by simp))
          clear og HBF HMF HOF
          go_wp2_with (fail)
          go_roundw
          case rel => exact ⟨i + 1, n, M, Am, cm, _, _, rfl, by go_num, by omega, by omega, HNE, HBG, HMG, HOG⟩
          case measure => simp [intOf]; omega
    · have hie : i = L.length := by omega
      have iz1 : ¬ (L.length : Int) < (L.length : Int) := by omega
      rw [hie]
      clear hie hi hlt hni
      go_wp2_with (fail)
      go_ret
      exact ⟨rfl, HO.out⟩
theorem bagplays_any {A : Option Addr} {cap : Nat} {L : List Ac} {w : World} (hL : Acs w A L) :
    Calls Try.prog 7 #[.slice A L.length cap] w fun e w' => e = .returned (.bool true) ∧ Only [] w w' := by
  by_cases hl : 200 < L.length
  · exact plays_many hl
  · exact plays_few hL (by omega)
end Go.Proofs.Ytpedlapemgjgaaa
