/- How two values stand to each other: the document's. -/
import Derived.Test.YtgpljjejfebhoaaDoorOrd
namespace Go.Proofs.YtgpljjejfebhoaaDoor
open Go.RowKit Go.Kx Go.Val
set_option maxRecDepth 100000
theorem lt_cmpS : ∀ s t : List UInt8, (s < t ↔ cmpS s t = -1)
  | [], [] => by simp [cmpS, ordF]
  | [], _ :: _ => by simp [cmpS, ordF]
  | _ :: _, [] => by simp [cmpS, ordF]
  | a :: s, b :: t => by
    have h := lt_cmpS s t
    have e : cmpS (a :: s) (b :: t) = orI (cmpC a b) (cmpS s t) := rfl
    rw [List.cons_lt_cons_iff, e, h]
    unfold orI cmpC cmpZ
    have e1 : a < b ↔ (a.toNat : Int) < (b.toNat : Int) := by rw [UInt8.lt_iff_toNat_lt]; omega
    have e2 : a = b ↔ (a.toNat : Int) = (b.toNat : Int) := by rw [← UInt8.toNat_inj]; omega
    rw [e1, e2]
    rcases Int.lt_trichotomy (a.toNat : Int) (b.toNat : Int) with h0 | h0 | h0
    · simp [h0]
    · have h1 : ¬ (a.toNat : Int) < (b.toNat : Int) := by omega
      have h2 : ¬ (b.toNat : Int) < (a.toNat : Int) := by omega
      rw [if_neg h1, if_neg h2, if_pos rfl]
      simp [h1, h0]
    · have h1 : ¬ (a.toNat : Int) < (b.toNat : Int) := by omega
      have h2 : ¬ (a.toNat : Int) = (b.toNat : Int) := by omega
      rw [if_neg h1, if_pos h0, if_neg (by decide)]
      simp [h1, h2]
theorem bless_eq : ∀ s t : List UInt8, Op.bytesLess s t = decide (s < t)
  | [], [] => by simp [Op.bytesLess]
  | _ :: _, [] => by simp [Op.bytesLess]
  | [], _ :: _ => by simp [Op.bytesLess]
  | a :: s, b :: t => by
    rw [Op.bytesLess, bless_eq s t]
    simp only [List.cons_lt_cons_iff]
    by_cases h1 : a < b <;> by_cases h2 : a = b <;> by_cases h3 : s < t <;> simp [h1, h2, h3]
theorem str_cases (s t : ByteArray) : (cmpS s.toList t.toList = -1 ∧ Op.bytesLess s.toList t.toList = true ∧ True) ∨ (cmpS s.toList t.toList = 0 ∧ Op.bytesLess s.toList t.toList = false ∧ (s.toList == t.toList) = true) ∨ (cmpS s.toList t.toList = 1 ∧ Op.bytesLess s.toList t.toList = false ∧ (s.toList == t.toList) = false) := by
  generalize s.toList = x
  generalize t.toList = y
  rw [bless_eq]
  have h1 := lt_cmpS x y
  have h4 := (cmpS_good x).rng y
  have h5 := (cmpS_good x).zero y
  rcases (show cmpS x y = -1 ∨ cmpS x y = 0 ∨ cmpS x y = 1 by omega) with h | h | h
  · exact .inl ⟨h, decide_eq_true (h1.2 h), trivial⟩
  · exact .inr (.inl ⟨h, decide_eq_false (fun e => by have := h1.1 e; omega), by rw [h5.1 h]; simp⟩)
  · exact .inr (.inr ⟨h, decide_eq_false (fun e => by have := h1.1 e; omega), beq_eq_false_iff_ne.2 (fun e => by have := h5.2 e; omega)⟩)
set_option maxHeartbeats 8000000 in
theorem refcmp_any : ∀ (a b : Vx) (w : World), LiesV w a → LiesV w b →
    Calls Tryd.prog 33 #[a.val, b.val] w fun r w' => r = .returned (.int .i64 (a.tr.cmp b.tr)) ∧ Only [] w w' := by
  refine Vx.ind (fun a ih => ?_)
  intro b w hLa hLb
  obtain ⟨k, n, s, A, cap, l⟩ := a
  obtain ⟨k2, n2, s2, A2, cap2, l2⟩ := b
  have HE := Lib.hid (show (Vx.mk k n s A cap l).tr.cmp (Vx.mk k2 n2 s2 A2 cap2 l2).tr = orI (cmpZ k k2) (orI (cmpZ n n2) (orI (cmpS s.toList s2.toList) (ordP (fun a b : Vx => a.tr.cmp b.tr) l l2))) by
    rw [Vx.tr_mk, Vx.tr_mk, Vt.cmp_mk, ord_map])
  have hbx := Blk.new w 34 #[.int .i64 k, .int .i64 n, .string s, .slice A l.length cap]
  have o0 : Only [] w (w.alloc (.cells #[.int .i64 k, .int .i64 n, .string s, .slice A l.length cap] 34)) := (Only.refl _ _).alloc _
  have hs1 : (w.alloc (.cells #[.int .i64 k, .int .i64 n, .string s, .slice A l.length cap] 34)).heap.size = w.heap.size + 1 := by simp
  have hby := Blk.new (w.alloc (.cells #[.int .i64 k, .int .i64 n, .string s, .slice A l.length cap] 34)) 34 #[.int .i64 k2, .int .i64 n2, .string s2, .slice A2 l2.length cap2]
  rw [hs1] at hby
  have o1 : Only [] (w.alloc (.cells #[.int .i64 k, .int .i64 n, .string s, .slice A l.length cap] 34)) ((w.alloc (.cells #[.int .i64 k, .int .i64 n, .string s, .slice A l.length cap] 34)).alloc (.cells #[.int .i64 k2, .int .i64 n2, .string s2, .slice A2 l2.length cap2] 34)) := (Only.refl _ _).alloc _
  have HBX := Lib.hid (o1.blk hbx (by simp))
  have HBY := Lib.hid hby
  obtain ⟨b0, b1, b2, b3, bl⟩ := HBX.out.facts4
  obtain ⟨d0, d1, d2, d3, dl⟩ := hby.facts4
  have HO := Lib.hid (o0.trans o1 (by simp))
  have HA := Lib.hid (hLa.rowL.keep HO.out)
  have HB := Lib.hid (hLb.rowL.keep HO.out)
  have hlA := HA.out.len
  have HF := Lib.hid (show ∀ a ∈ l, ∀ b w', LiesV w' a → LiesV w' b → Calls Tryd.prog 33 #[a.val, b.val] w' fun r w'' => r = .returned (.int .i64 (a.tr.cmp b.tr)) ∧ Only [] w' w'' from fun a ha b w' h1 h2 => ih a (by simpa [Vx.l] using ha) b w' h1 h2)
  obtain ⟨res, hres⟩ : ∃ res, (Vx.mk k n s A cap l).tr.cmp (Vx.mk k2 n2 s2 A2 cap2 l2).tr = res := ⟨_, rfl⟩
  have HE2 := Lib.hid (show res = orI (cmpZ k k2) (orI (cmpZ n n2) (orI (cmpS s.toList s2.toList) (ordP (fun a b : Vx => a.tr.cmp b.tr) l l2))) by rw [← hres, HE.out])
  rw [hres]
  clear hLa hLb ih hbx hby o0 o1 hres HE
  show Calls Tryd.prog 33 #[.agg #[.int .i64 k, .int .i64 n, .string s, .slice A l.length cap], .agg #[.int .i64 k2, .int .i64 n2, .string s2, .slice A2 l2.length cap2]] w _
  rcases Int.lt_trichotomy k k2 with hk | hk | hk
  · have e0 : (k != k2) = true := by simp; omega
    have e1 : decide (k < k2) = true := decide_eq_true hk
    have HRES := Lib.hid (show res = -1 by rw [HE2.out]; unfold orI cmpZ; rw [if_pos hk]; rfl)
    go_enter Tryd.func33, Tryd.ntmps33
    go_wp2_with (fail)
    go_ret
    exact ⟨by rw [HRES.out]; rfl, HO.out⟩
  · subst hk
    have e0 : (k != k) = false := by simp
    rcases Int.lt_trichotomy n n2 with hn | hn | hn
    · have e1 : decide (n < n2) = true := decide_eq_true hn
      have HRES := Lib.hid (show res = -1 by rw [HE2.out]; unfold orI cmpZ; simp [hn])
      go_enter Tryd.func33, Tryd.ntmps33
      go_wp2_with (fail)
      go_ret
      exact ⟨by rw [HRES.out]; rfl, HO.out⟩
    · subst hn
      have e1 : decide (n < n) = false := by simp
      rcases str_cases s s2 with ⟨hs, h1, h2⟩ | ⟨hs, h1, h2⟩ | ⟨hs, h1, h2⟩
      · have HRES := Lib.hid (show res = -1 by rw [HE2.out, hs]; unfold orI cmpZ; simp)
        clear hs
        go_enter Tryd.func33, Tryd.ntmps33
        go_wp2_with (fail)
        go_ret
        exact ⟨by rw [HRES.out]; rfl, HO.out⟩
      · have HRES := Lib.hid (show res = ordP (fun a b : Vx => a.tr.cmp b.tr) l l2 by rw [HE2.out, hs]; unfold orI cmpZ; simp)
        clear hs
        go_enter Tryd.func33, Tryd.ntmps33
        go_wp2_with (fail)
        generalize (w.alloc (.cells #[.int .i64 k, .int .i64 n, .string s, .slice A l.length cap] 34)).alloc (.cells #[.int .i64 k, .int .i64 n, .string s2, .slice A2 l2.length cap2] 34) = w1 at *
        go_loopw [5] (fun i wr => ∃ k : Nat, i = .int .i64 k ∧ k ≤ min l.length l2.length ∧ Hid (ordP (fun a b : Vx => a.tr.cmp b.tr) l l2 = ordP (fun a b : Vx => a.tr.cmp b.tr) (l.drop k) (l2.drop k)) ∧ Hid (Only [] w1 wr)) (fun i _ => l.length + l2.length - (intOf i).toNat)
        case atStart => exact ⟨0, rfl, Nat.zero_le _, Lib.hid rfl, Lib.hid (Only.refl _ _)⟩
        case round =>
          clear b0 b1 b2 b3 bl d0 d1 d2 d3 dl
          obtain ⟨wq, rfl⟩ : ∃ wq : World, wq = wr := ⟨_, rfl⟩
          obtain ⟨k, rfl, hk, HP, HOr⟩ := hrel
          have HBXr := Lib.hid (HOr.out.blk HBX.out (by simp))
          have HBYr := Lib.hid (HOr.out.blk HBY.out (by simp))
          obtain ⟨b0, b1, b2, b3, bl⟩ := HBXr.out.facts4
          obtain ⟨d0, d1, d2, d3, dl⟩ := HBYr.out.facts4
          have HK := Lib.hid hk
          rcases (show (k < l.length ∧ k < l2.length) ∨ (k < l.length ∧ l2.length ≤ k) ∨ (l.length ≤ k ∧ k < l2.length) ∨ (l.length ≤ k ∧ l2.length ≤ k) by omega) with ⟨hk1, hk2⟩ | ⟨hk1, hk2⟩ | ⟨hk1, hk2⟩ | ⟨hk1, hk2⟩
          · obtain ⟨x, hx⟩ : ∃ e, l[k]? = some e := ⟨_, List.getElem?_eq_getElem hk1⟩
            obtain ⟨y, hy⟩ : ∃ e, l2[k]? = some e := ⟨_, List.getElem?_eq_getElem hk2⟩
            have hmx : x ∈ l := List.mem_of_getElem? hx
            have HLx := Lib.hid ((HA.out.sub x hmx).keep HOr.out)
            have HLy := Lib.hid ((HB.out.sub y (List.mem_of_getElem? hy)).keep HOr.out)
            have hcall := HF.out x hmx y
            have HS := Lib.hid (ordP_at (c := fun a b : Vx => a.tr.cmp b.tr) hx hy)
            have hrx := (HA.out.row k _ hx).only HOr.out (by simp)
            have hry := (HB.out.row k _ hy).only HOr.out (by simp)
            obtain ⟨pe, hpe⟩ : ∃ pe, x.tr.cmp y.tr = pe := ⟨_, rfl⟩
            rw [hpe] at hcall HS
            obtain ⟨xk, xn, xs, xA, xcap, xl⟩ := x
            obtain ⟨yk, yn, ys, yA, ycap, yl⟩ := y
            obtain ⟨ba, oa, rfl, hba, c0, c1, c2, c3⟩ := hrx.cells
            obtain ⟨bb, ob, rfl, hbb, g0, g1, g2, g3⟩ := hry.cells
            have HC := Lib.hid (And.intro hba (And.intro c0 (And.intro c1 (And.intro c2 c3))))
            have HD := Lib.hid (And.intro hbb (And.intro g0 (And.intro g1 (And.intro g2 g3))))
            have HCA := Lib.hid (show ∀ w', Only [] wq w' → Calls Tryd.prog 33 #[.agg #[.int .i64 xk, .int .i64 xn, .string xs, .slice xA xl.length xcap], .agg #[.int .i64 yk, .int .i64 yn, .string ys, .slice yA yl.length ycap]] w' fun r w'' => r = .returned (.int .i64 pe) ∧ Only [] w' w'' from fun w' o => hcall w' (HLx.out.keep o) (HLy.out.keep o))
            have hki : (0 : Int) ≤ (k : Int) := by omega
            have hki2 : (k : Int) < (l.length : Int) := by omega
            have hki3 : (k : Int) < (l2.length : Int) := by omega
            have d1 : decide ((l.length : Int) ≤ (k : Int)) = false := decide_eq_false (by omega)
            have d2 : decide ((l2.length : Int) ≤ (k : Int)) = false := decide_eq_false (by omega)
            have d3 : decide ((k : Int) < (l.length : Int)) = true := decide_eq_true hki2
            have d4 : ¬ l.length ≤ k := by omega
            have d5 : ¬ l2.length ≤ k := by omega
            clear hx hy hmx hcall hrx hry hpe c0 c1 c2 c3 g0 g1 g2 g3
            go_wp2_with (fail)
            clear b0 b1 b2 b3 bl d0 d1 d2 d3 dl
            refine (wpIn_wide (n := 9)).1 ?_
            refine wpIn_region_relR 11 (Only []) (fr := ?frg) (tl := ?tlg) (fun iq v wv => match iq with
              | 0 => v = .pointer (some ⟨w.heap.size, 3, none⟩)
              | 1 => v = .slice (some ⟨ba, oa, none⟩) l.length cap
              | 2 => v = .int .i64 (k : Nat)
              | 3 => v = .pointer (some ⟨ba, oa + k * 4, none⟩)
              | 4 => v = .agg #[.int .i64 xk, .int .i64 xn, .string xs, .slice xA xl.length xcap]
              | 5 => v = .pointer (some ⟨w.heap.size + 1, 3, none⟩)
              | 6 => v = .slice (some ⟨bb, ob, none⟩) l2.length cap2
              | 7 => v = .int .i64 (k : Nat)
              | 8 => v = .pointer (some ⟨bb, ob + k * 4, none⟩)
              | 9 => v = .agg #[.int .i64 yk, .int .i64 yn, .string ys, .slice yA yl.length ycap]
              | 10 => v = .int .i64 pe
              | _ => True) (.inl rfl) (by kernel_rfl) (by kernel_rfl) (by kernel_rfl) (by kernel_rfl) (by kernel_rfl) (by kernel_rfl) (by decide) ?htlg ?hfrg (Only.refl _ _) (fun _ _ _ h k => h.trans k (fun _ hx => .inl hx)) ?stabg ?stepsg ?doneg
            case htlg => simp only [List.drop_succ_cons, List.drop_zero]; rfl
            case hfrg => intro vals; simp only [putAll, dstAt, Act.put, List.getElem?_toArray, List.getElem?_cons_zero, List.getElem?_cons_succ, Option.bind_some, List.setIfInBounds_toArray, List.set_cons_zero, List.set_cons_succ]; rfl
            case stabg =>
              intro i v wa wb h
              try dsimp only
              split <;> first | exact id
            case stepsg =>
              refine ⟨?_, ?_, ?_, ?_, ?_, ?_, ?_, ?_, ?_, ?_, ?_, trivial⟩
              · intro vals wr hR hp K hK
                dsimp only at hK ⊢
                clear hp
                unfold RunsOp
                go_simp
                exact hK.out _ _ ⟨_, rfl, Only.refl _ _, rfl⟩
              · intro vals wr hR hp K hK
                dsimp only at hK ⊢
                obtain ⟨p0, -⟩ := hp
                replace p0 := p0 rfl
                dsimp only at p0
                rw [p0] at hK ⊢
                clear p0
                unfold RunsOp
                have tg := (hR.blk (Blk.drew HBXr.out) (by simp)).facts4
                obtain ⟨z0, z1, z2, z3, zl⟩ := tg
                go_simp
                exact hK.out _ _ ⟨_, rfl, Only.refl _ _, rfl⟩
              · intro vals wr hR hp K hK
                dsimp only at hK ⊢
                clear hp
                unfold RunsOp
                go_simp
                exact hK.out _ _ ⟨_, rfl, Only.refl _ _, rfl⟩
              · intro vals wr hR hp K hK
                dsimp only at hK ⊢
                obtain ⟨p1, p2, -⟩ := hp
                replace p1 := p1 rfl
                replace p2 := p2 rfl
                dsimp only at p1 p2
                rw [p1, p2] at hK ⊢
                clear p1 p2
                unfold RunsOp
                go_simp
                exact hK.out _ _ ⟨_, rfl, Only.refl _ _, rfl⟩
              · intro vals wr hR hp K hK
                dsimp only at hK ⊢
                obtain ⟨p3, -⟩ := hp
                replace p3 := p3 rfl
                dsimp only at p3
                rw [p3] at hK ⊢
                clear p3
                unfold RunsOp
                have q0 := (hR.cell (p := ⟨ba, oa + k * 4, none⟩) HC.out.1 (by simp)).trans HC.out.2.1
                have q1 := (hR.cell (p := ⟨ba, oa + k * 4 + 1, none⟩) HC.out.1 (by simp)).trans HC.out.2.2.1
                have q2 := (hR.cell (p := ⟨ba, oa + k * 4 + 2, none⟩) HC.out.1 (by simp)).trans HC.out.2.2.2.1
                have q3 := (hR.cell (p := ⟨ba, oa + k * 4 + 3, none⟩) HC.out.1 (by simp)).trans HC.out.2.2.2.2
                go_simp
                exact hK.out _ _ ⟨_, rfl, Only.refl _ _, rfl⟩
              · intro vals wr hR hp K hK
                dsimp only at hK ⊢
                clear hp
                unfold RunsOp
                go_simp
                exact hK.out _ _ ⟨_, rfl, Only.refl _ _, rfl⟩
              · intro vals wr hR hp K hK
                dsimp only at hK ⊢
                obtain ⟨p5, -⟩ := hp
                replace p5 := p5 rfl
                dsimp only at p5
                rw [p5] at hK ⊢
                clear p5
                unfold RunsOp
                have tg := (hR.blk (Blk.drew HBYr.out) (by simp)).facts4
                obtain ⟨z0, z1, z2, z3, zl⟩ := tg
                go_simp
                exact hK.out _ _ ⟨_, rfl, Only.refl _ _, rfl⟩
              · intro vals wr hR hp K hK
                dsimp only at hK ⊢
                clear hp
                unfold RunsOp
                go_simp
                exact hK.out _ _ ⟨_, rfl, Only.refl _ _, rfl⟩
              · intro vals wr hR hp K hK
                dsimp only at hK ⊢
                obtain ⟨p6, p7, -⟩ := hp
                replace p6 := p6 rfl
                replace p7 := p7 rfl
                dsimp only at p6 p7
                rw [p6, p7] at hK ⊢
                clear p6 p7
                unfold RunsOp
                go_simp
                exact hK.out _ _ ⟨_, rfl, Only.refl _ _, rfl⟩
              · intro vals wr hR hp K hK
                dsimp only at hK ⊢
                obtain ⟨p8, -⟩ := hp
                replace p8 := p8 rfl
                dsimp only at p8
                rw [p8] at hK ⊢
                clear p8
                unfold RunsOp
                have q0 := (hR.cell (p := ⟨bb, ob + k * 4, none⟩) HD.out.1 (by simp)).trans HD.out.2.1
                have q1 := (hR.cell (p := ⟨bb, ob + k * 4 + 1, none⟩) HD.out.1 (by simp)).trans HD.out.2.2.1
                have q2 := (hR.cell (p := ⟨bb, ob + k * 4 + 2, none⟩) HD.out.1 (by simp)).trans HD.out.2.2.2.1
                have q3 := (hR.cell (p := ⟨bb, ob + k * 4 + 3, none⟩) HD.out.1 (by simp)).trans HD.out.2.2.2.2
                go_simp
                exact hK.out _ _ ⟨_, rfl, Only.refl _ _, rfl⟩
              · intro vals wr hR hp K hK
                dsimp only at hK ⊢
                obtain ⟨p4, p9, -⟩ := hp
                replace p4 := p4 rfl
                replace p9 := p9 rfl
                dsimp only at p4 p9
                rw [p4, p9] at hK ⊢
                clear p4 p9
                unfold RunsOp
                go_simp
                refine (HCA.out _ ((Only.refl [] wq).drew.trans hR (by simp))).mono ?_
                rintro e' w2 ⟨rfl, o2⟩
                exact hK.out _ _ ⟨_, rfl, o2, rfl⟩
            case doneg =>
              intro vals wd hR hF
              have f0 : vals 0 = .pointer (some ⟨w.heap.size, 3, none⟩) := hF 0 (by decide)
              have f1 : vals 1 = .slice (some ⟨ba, oa, none⟩) l.length cap := hF 1 (by decide)
              have f2 : vals 2 = .int .i64 (k : Nat) := hF 2 (by decide)
              have f3 : vals 3 = .pointer (some ⟨ba, oa + k * 4, none⟩) := hF 3 (by decide)
              have f4 : vals 4 = .agg #[.int .i64 xk, .int .i64 xn, .string xs, .slice xA xl.length xcap] := hF 4 (by decide)
              have f5 : vals 5 = .pointer (some ⟨w.heap.size + 1, 3, none⟩) := hF 5 (by decide)
              have f6 : vals 6 = .slice (some ⟨bb, ob, none⟩) l2.length cap2 := hF 6 (by decide)
              have f7 : vals 7 = .int .i64 (k : Nat) := hF 7 (by decide)
              have f8 : vals 8 = .pointer (some ⟨bb, ob + k * 4, none⟩) := hF 8 (by decide)
              have f9 : vals 9 = .agg #[.int .i64 yk, .int .i64 yn, .string ys, .slice yA yl.length ycap] := hF 9 (by decide)
              have f10 : (vals 10) = .int .i64 pe := hF 10 (by decide)
              rw [f0, f1, f2, f3, f4, f5, f6, f7, f8, f9]
              clear f0 f1 f2 f3 f4 f5 f6 f7 f8 f9
              rw [f10]
              clear f10
              have HO5 := Lib.hid (HOr.out.trans ((Only.refl [] wq).drew.trans hR (by simp)) (by simp))
              clear hR hF
              by_cases hp0 : pe = 0
              · subst hp0
                gi_wp2_with (fail)
                go_wp2_with (fail)
                go_roundw
                case rel => exact ⟨k + 1, by go_num, by omega, Lib.hid (by rw [HP.out, HS.out]; rfl), HO5⟩
                case measure => simp [intOf]; omega
              · have e0 : (pe != 0) = true := by simpa using hp0
                have HP0 := Lib.hid hp0
                clear hp0
                gi_wp2_with (fail)
                go_wp2_with (fail)
                go_ret
                exact ⟨by rw [HRES.out, HP.out, HS.out]; unfold orI; rw [if_neg HP0.out]; rfl, HO.out.trans HO5.out (by simp)⟩
          · have d1 : decide ((l.length : Int) ≤ (k : Int)) = false := decide_eq_false (by omega)
            have d2 : decide ((l2.length : Int) ≤ (k : Int)) = true := decide_eq_true (by omega)
            have d3 : decide ((k : Int) < (l.length : Int)) = true := decide_eq_true (by omega)
            have d4 : ¬ l.length ≤ k := by omega
            have HZ := Lib.hid (show ordP (fun a b : Vx => a.tr.cmp b.tr) l l2 = 1 by
              rw [HP.out, ordP_end (by omega)]
              unfold cmpZ
              rw [if_neg (by omega), if_pos (by omega)])
            go_wp2_with (fail)
            go_ret
            exact ⟨by rw [HRES.out, HZ.out]; rfl, HO.out.trans HOr.out (by simp)⟩
          · have d1 : decide ((l.length : Int) ≤ (k : Int)) = true := decide_eq_true (by omega)
            have d2 : decide ((l2.length : Int) ≤ (k : Int)) = false := decide_eq_false (by omega)
            have d3 : decide ((k : Int) < (l.length : Int)) = false := decide_eq_false (by omega)
            have d4 : decide ((k : Int) < (l2.length : Int)) = true := decide_eq_true (by omega)
            have d5 : ¬ l2.length ≤ k := by omega
            have d6 : ¬ k < l.length := by omega
            have HZ := Lib.hid (show ordP (fun a b : Vx => a.tr.cmp b.tr) l l2 = -1 by
              rw [HP.out, ordP_end (by omega)]
              unfold cmpZ
              rw [if_pos (by omega)])
            go_wp2_with (fail)
            go_ret
            exact ⟨by rw [HRES.out, HZ.out]; rfl, HO.out.trans HOr.out (by simp)⟩
          · have d3 : decide ((k : Int) < (l.length : Int)) = false := decide_eq_false (by omega)
            have d4 : decide ((k : Int) < (l2.length : Int)) = false := decide_eq_false (by omega)
            have d6 : ¬ k < l.length := by omega
            have d7 : ¬ k < l2.length := by omega
            have HZ := Lib.hid (show ordP (fun a b : Vx => a.tr.cmp b.tr) l l2 = 0 by
              rw [HP.out, ordP_end (by omega)]
              unfold cmpZ
              rw [if_neg (by omega), if_neg (by omega)])
            go_wp2_with (fail)
            go_ret
            exact ⟨by rw [HRES.out, HZ.out]; rfl, HO.out.trans HOr.out (by simp)⟩
      · have HRES := Lib.hid (show res = 1 by rw [HE2.out, hs]; unfold orI cmpZ; simp)
        clear hs
        go_enter Tryd.func33, Tryd.ntmps33
        go_wp2_with (fail)
        go_ret
        exact ⟨by rw [HRES.out]; rfl, HO.out⟩
    · have e1 : decide (n < n2) = false := decide_eq_false (by omega)
      have e2 : decide (n2 < n) = true := decide_eq_true hn
      have h3 : ¬ n < n2 := by omega
      have HRES := Lib.hid (show res = 1 by rw [HE2.out]; unfold orI cmpZ; simp [hn, h3])
      go_enter Tryd.func33, Tryd.ntmps33
      go_wp2_with (fail)
      go_ret
      exact ⟨by rw [HRES.out]; rfl, HO.out⟩
  · have e0 : (k != k2) = true := by simp; omega
    have e1 : decide (k < k2) = false := decide_eq_false (by omega)
    have e2 : ¬ k < k2 := by omega
    have HRES := Lib.hid (show res = 1 by rw [HE2.out]; unfold orI cmpZ; rw [if_neg e2, if_pos hk]; rfl)
    go_enter Tryd.func33, Tryd.ntmps33
    go_wp2_with (fail)
    go_ret
    exact ⟨by rw [HRES.out]; rfl, HO.out⟩
end Go.Proofs.YtgpljjejfebhoaaDoor
