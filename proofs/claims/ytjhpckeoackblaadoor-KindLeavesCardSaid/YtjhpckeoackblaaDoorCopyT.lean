/- copyType. -/
import Derived.Test.YtjhpckeoackblaaDoorArgs
import Derived.Test.YtjhpckeoackblaaDoorFactsR
namespace Go.Proofs.YtjhpckeoackblaaDoor
open Go.RowKit Go.Kx
open Go.Val (Tt okK)
set_option maxRecDepth 100000
/-- one made anew, in blocks from B on -/
structure CpK (B : Nat) (w : World) (t : Tt) (y : Tx) : Prop where
  tr : y.tr = t
  lies : LiesT w y
  off : ∀ b ∈ y.bks, B ≤ b
theorem CpK.keep {B : Nat} {w w' : World} {t : Tt} {y : Tx} (h : CpK B w t y) (o : Only [] w w') : CpK B w' t y := ⟨h.tr, h.lies.keep o, h.off⟩
theorem CpK.low {B B' : Nat} {w : World} {t : Tt} {y : Tx} (h : CpK B w t y) (hB : B' ≤ B) : CpK B' w t y := ⟨h.tr, h.lies, fun b hb => Nat.le_trans hB (h.off b hb)⟩
theorem CpK.only {B : Nat} {T : List Nat} {w w' : World} {t : Tt} {y : Tx} (h : CpK B w t y) (o : Only T w w') (hT : ∀ x ∈ T, x < B) : CpK B w' t y :=
  ⟨h.tr, h.lies.only o (fun b hb hm => by have := hT _ hm; have := h.off b hb; omega), h.off⟩
theorem ok_sub {k : Int} {l : List Tt} {r : Nat} (h : (Tt.mk k l).ok r = true) : l.length ≤ 4 ∧ ∀ x ∈ l, x.ok (r - 1) = true := by
  rw [Go.Val.Tt.ok_mk, Bool.and_eq_true] at h
  refine ⟨?_, List.all_eq_true.1 h.2⟩
  have h1 := h.1
  unfold okK at h1
  split at h1
  · simp at h1; simp [h1]
  · split at h1
    · simp at h1; exact h1.2
    · cases h1
set_option maxHeartbeats 4000000 in
theorem copyT : ∀ (e : Tx) (w : World), LiesT w e → ∀ r, e.tr.ok r = true → Calls Tryd.prog 19 #[e.val] w fun x w' => ∃ y, x = .returned (Tx.val y) ∧ CpK w.heap.size w' e.tr y ∧ Only [] w w' := by
  refine Tx.ind (fun e ih => ?_)
  intro w hL r hok
  obtain ⟨k, A, cap, l⟩ := e
  have hi := hL.inv
  have HR := Lib.hid hL.rowL
  have HI := Lib.hid ih
  have HH := Lib.hid hi.1
  have hsub : l.length ≤ 4 ∧ ∀ x ∈ l, x.tr.ok (r - 1) = true := by
    rw [Tx.tr_mk] at hok
    have h := ok_sub hok
    rw [List.length_map] at h
    exact ⟨h.1, fun x hx => h.2 _ (List.mem_map.2 ⟨x, hx, rfl⟩)⟩
  have HSUB := Lib.hid hsub.2
  have HT := Lib.hid (Tx.tr_mk k A cap l)
  obtain ⟨n9, hn9⟩ : ∃ n9, l.length = n9 := ⟨_, rfl⟩
  have HN := Lib.hid hn9
  have hbig : n9 ≤ 4 := by rw [← hn9]; exact hsub.1
  show Calls Tryd.prog 19 #[.agg #[.int .i64 k, .slice A l.length cap]] w _
  rw [hn9]
  have q0 : Blk ((w.alloc (.cells #[.int .i64 k, .slice A n9 cap] 34)).alloc (.cells #[.int .i64 0, .slice none 0 0] 34)) w.heap.size 34 #[.int .i64 k, .slice A n9 cap] := (Blk.new w _ _).alloc _
  obtain ⟨b0, b1, bl⟩ := q0.facts2
  have HB0 := Lib.hid (Blk.new w 34 #[.int .i64 k, .slice A n9 cap])
  have HB1 := Lib.hid (Blk.new (w.alloc (.cells #[.int .i64 k, .slice A n9 cap] 34)) 34 #[.int .i64 0, .slice none 0 0])
  have HB2 := Lib.hid (Blk.new ((w.alloc (.cells #[.int .i64 k, .slice A n9 cap] 34)).alloc (.cells #[.int .i64 0, .slice none 0 0] 34)) 34 #[.int .i64 k, .slice none 0 0])
  clear hL ih hi q0 hok hsub hn9
  go_enter Tryd.func19, Tryd.ntmps19
  go_wp2_with (fail)
  have HO3 := Lib.hid (show Only [] w (((w.alloc (.cells #[.int .i64 k, .slice A n9 cap] 34)).alloc (.cells #[.int .i64 0, .slice none 0 0] 34)).alloc (.cells #[.int .i64 k, .slice none 0 0] 34)) from (((Only.refl _ _).alloc _).alloc _).alloc _)
  go_loopw [12] (fun i wr => ∃ (k9 : Nat) (A2 : Option Addr) (c2 : Nat) (es : List Tx), i = .int .i64 k9 ∧ k9 ≤ n9 ∧ Hid (es.length = k9) ∧ Hid (es.map Tx.tr = (l.take k9).map Tx.tr) ∧ Hid (ArgsT (w.heap.size + 3) wr A2 c2 es) ∧ Hid (∀ e ∈ es, ∀ b ∈ e.bks, w.heap.size + 3 ≤ b) ∧ Hid (Blk wr w.heap.size 34 #[.int .i64 k, .slice A n9 cap]) ∧ Hid (Blk wr (w.heap.size + 1) 34 #[.int .i64 0, .slice none 0 0]) ∧ Hid (Blk wr (w.heap.size + 2) 34 #[.int .i64 k, .slice A2 k9 c2]) ∧ Hid (Only [] w wr)) (fun i _ => n9 - (intOf i).toNat)
  case atStart =>
    have h2 := HB2.out
    have h1 := HB1.out
    simp only [World.size_alloc] at h1 h2
    exact ⟨0, none, 0, [], rfl, Nat.zero_le _, Lib.hid rfl, Lib.hid rfl, Lib.hid (ArgsT.nil _ _), Lib.hid (fun e h => by simp at h), Lib.hid (Blk.alloc (Blk.alloc HB0.out _) _), Lib.hid (Blk.alloc h1 _), Lib.hid h2, HO3⟩
  case round =>
    obtain ⟨k9, A2, c2, es, rfl, hk, HEL, HETR, HAR, HEO, HIB, HRB, HTB, HOr⟩ := hrel
    clear b0 b1 bl
    by_cases hlt : k9 < n9
    · obtain ⟨e, he⟩ : ∃ e, l[k9]? = some e := ⟨_, List.getElem?_eq_getElem (by rw [HN.out]; exact hlt)⟩
      have hmem : e ∈ l := List.mem_of_getElem? he
      have HLe := Lib.hid ((HR.out.sub e hmem).keep HOr.out)
      have hcall := HI.out e (by simpa [Tx.l] using hmem)
      have hse := HSUB.out e hmem
      have HTK := Lib.hid (show (l.take (k9 + 1)).map Tx.tr = (l.take k9).map Tx.tr ++ [e.tr] by rw [List.take_add_one, he, List.map_append]; rfl)
      obtain ⟨ty, hty⟩ : ∃ ty, e.tr = ty := ⟨_, rfl⟩
      rw [hty] at hcall HTK hse
      have hrow := (HR.out.row k9 _ he).only HOr.out (by simp)
      obtain ⟨xk, xA, xcap, xl⟩ := e
      obtain ⟨b, o, rfl, hbb, c0, c1⟩ := hrow.cells
      have HQS := Lib.hid (show w.heap.size + 3 ≤ wr.heap.size by have := HTB.out.lt; omega)
      have oA : Only [] wr (wr.alloc (.cells #[.int .i64 xk, .slice xA xl.length xcap] 34)) := (Only.refl _ _).alloc _
      have HXB0 := Lib.hid (Blk.new wr 34 #[.int .i64 xk, .slice xA xl.length xcap])
      have HOA := Lib.hid oA
      have ik0 : (0 : Int) ≤ (k9 : Int) := by omega
      have ik1 : (k9 : Int) < (n9 : Int) := by omega
      have HCA0 := Lib.hid (show ∀ w', Only [] wr w' → Calls Tryd.prog 19 #[.agg #[.int .i64 xk, .slice xA xl.length xcap]] w' fun r w'' => ∃ yk yA ycap yl, r = .returned (.agg #[.int .i64 yk, .slice yA (List.length yl) ycap]) ∧ CpK w'.heap.size w'' ty (.mk yk yA ycap yl) ∧ Only [] w' w'' from fun w' o' => (hcall w' (HLe.out.keep o') _ hse).mono fun r w'' ⟨e', h1, h2, h3⟩ => by
        obtain ⟨yk, yA, ycap, yl⟩ := e'
        exact ⟨yk, yA, ycap, yl, h1, h2, h3⟩)
      clear he hmem hcall hse hty hrow
      go_wp2_with (fail)
      obtain ⟨wq, hwq⟩ : ∃ wq : World, wq = wr.alloc (.cells #[.int .i64 xk, .slice xA xl.length xcap] 34) := ⟨_, rfl⟩
      obtain ⟨xb, hxb⟩ : ∃ xb, wr.heap.size = xb := ⟨_, rfl⟩
      have HXB := Lib.hid (show Blk wq xb 34 #[.int .i64 xk, .slice xA xl.length xcap] by rw [hwq, ← hxb]; exact HXB0.out)
      have HOQ := Lib.hid (show Only [] wr wq by rw [hwq]; exact oA)
      rw [← hwq, hxb]
      have HCA := Lib.hid (fun w' (o : Only [] wq w') => HCA0.out w' (HOQ.out.trans o (by simp)))
      replace HTB := Lib.hid (HOQ.out.blk HTB.out (by simp))
      replace HRB := Lib.hid (HOQ.out.blk HRB.out (by simp))
      replace HIB := Lib.hid (HOQ.out.blk HIB.out (by simp))
      replace HAR := Lib.hid (HAR.out.keep HOQ.out)
      replace HOr := Lib.hid (HOr.out.trans HOQ.out (by simp))
      replace HQS := Lib.hid (Nat.le_trans HQS.out HOQ.out.size)
      have HXQ := Lib.hid hxb
      clear c0 c1 oA hwq hxb hbb HXB0 HOA HCA0
      refine (wpIn_wide (n := 9)).1 ?_
      refine wpIn_region_relR 5 (Only []) (fr := ?frg) (tl := ?tlg) (fun iq v wv => match iq with
        | 0 => v = .pointer (some ⟨w.heap.size + 2, 1, none⟩)
        | 1 => v = .slice A2 k9 c2
        | 2 => v = .agg #[.int .i64 xk, .slice xA xl.length xcap]
        | 3 => ∃ yk yA ycap yl, v = .agg #[.int .i64 yk, .slice yA (List.length yl) ycap] ∧ CpK wq.heap.size wv ty (.mk yk yA ycap yl)
        | 4 => ∃ z yk yA ycap yl, v = .slice (some ⟨z, 0, none⟩) 1 1 ∧ Blk wv z 34 #[.int .i64 yk, .slice yA (List.length yl) ycap] ∧ CpK wq.heap.size wv ty (.mk yk yA ycap yl)
        | _ => True) (.inl rfl) (by kernel_rfl) (by kernel_rfl) (by kernel_rfl) (by kernel_rfl) (by kernel_rfl) (by kernel_rfl) (by decide) ?htlg ?hfrg (Only.refl _ _) (fun _ _ _ h k => h.trans k (fun _ hx => .inl hx)) ?stabg ?stepsg ?doneg
      case htlg => simp only [List.drop_succ_cons, List.drop_zero]; rfl
      case hfrg => intro vals; simp only [putAll, dstAt, Act.put, List.getElem?_toArray, List.getElem?_cons_zero, List.getElem?_cons_succ, Option.bind_some, List.setIfInBounds_toArray, List.set_cons_zero, List.set_cons_succ]; rfl
      case stabg =>
        intro i v wa wb h
        try dsimp only
        split <;> first | exact id | (rintro ⟨yk, yA, ycap, yl, h1, h2⟩; exact ⟨yk, yA, ycap, yl, h1, h2.keep h⟩) | (rintro ⟨z, yk, yA, ycap, yl, h1, h2, h3⟩; exact ⟨z, yk, yA, ycap, yl, h1, h.blk h2 (by simp), h3.keep h⟩)
      case stepsg =>
        refine ⟨?_, ?_, ?_, ?_, ?_, trivial⟩
        · intro vals wr hR hp K hK
          dsimp only at hK ⊢
          clear hp
          unfold RunsOp
          go_simp
          exact hK.out _ _ ⟨_, rfl, Only.refl _ _, rfl⟩
        · intro vals wr hR hp K hK
          dsimp only at hK ⊢
          obtain ⟨p0, -⟩ := hp
          replace p0 := p0 rfl
          dsimp only at p0
          rw [p0] at hK ⊢
          clear p0
          unfold RunsOp
          have k0 := (hR.blk (Blk.drew HTB.out) (by simp)).cell 1
          simp at k0
          have kl := (hR.blk (Blk.drew HTB.out) (by simp)).lt
          go_simp
          exact hK.out _ _ ⟨_, rfl, Only.refl _ _, rfl⟩
        · intro vals wr hR hp K hK
          dsimp only at hK ⊢
          clear hp
          unfold RunsOp
          obtain ⟨k0, k1, kl⟩ := (hR.blk (Blk.drew HXB.out) (by simp)).facts2
          go_simp
          exact hK.out _ _ ⟨_, rfl, Only.refl _ _, rfl⟩
        · intro vals wr hR hp K hK
          dsimp only at hK ⊢
          obtain ⟨p2, -⟩ := hp
          replace p2 := p2 rfl
          dsimp only at p2
          rw [p2] at hK ⊢
          clear p2
          unfold RunsOp
          go_simp
          refine (HCA.out _ ((Only.refl [] _).drew.trans hR (by simp))).mono ?_
          rintro e' w2 ⟨yk, yA, ycap, yl, rfl, hc, o2⟩
          exact hK.out _ _ ⟨_, rfl, o2, yk, yA, ycap, yl, rfl, hc.low (hR.size)⟩
        · intro vals wr hR hp K hK
          dsimp only at hK ⊢
          obtain ⟨p3, -⟩ := hp
          replace p3 := p3 rfl
          dsimp only at p3
          obtain ⟨yk, yA, ycap, yl, e3, hc3⟩ := p3
          rw [e3] at hK ⊢
          clear e3
          unfold RunsOp
          have hz := Blk.new wr 34 #[.int .i64 yk, .slice yA yl.length ycap]
          have oz : Only [] wr (wr.alloc (.cells #[.int .i64 yk, .slice yA yl.length ycap] 34)) := (Only.refl _ _).alloc _
          have hc := hc3.keep oz
          clear hc3
          go_simp
          exact hK.out _ _ ⟨_, rfl, oz, _, yk, yA, ycap, yl, rfl, hz, hc⟩
      case doneg =>
        intro vals wd hR hF
        have f0 : vals 0 = .pointer (some ⟨w.heap.size + 2, 1, none⟩) := hF 0 (by decide)
        have f1 : vals 1 = .slice A2 k9 c2 := hF 1 (by decide)
        have f2 : vals 2 = .agg #[.int .i64 xk, .slice xA xl.length xcap] := hF 2 (by decide)
        have f4 : ∃ z yk yA ycap yl, (vals 4) = .slice (some ⟨z, 0, none⟩) 1 1 ∧ Blk wd z 34 #[.int .i64 yk, .slice yA (List.length yl) ycap] ∧ CpK wq.heap.size wd ty (.mk yk yA ycap yl) := hF 4 (by decide)
        rw [f1]
        clear f1
        obtain ⟨z, yk, yA, ycap, yl, f4, hz, hc⟩ := f4
        rw [f4]
        have HOd := Lib.hid ((Only.refl [] wq).drew.trans hR (by simp))
        obtain ⟨A5, c5, w5, hrun, ho5, oo5, hA5⟩ := run_appT (w := wd) (M := [.mk yk yA ycap yl]) (by have h := (HAR.out.keep HOd.out).own; rw [HEL.out] at h; exact h) (z := z) (cz := 1) (fun j u hj => by rw [hz.cell]; simpa [flat2, Tx.cs] using hj) (by simp; omega) (by have := HQS.out; have := HOd.out.size; omega)
        have hne := HAR.out.blk
        have HTB5 := Lib.hid (oo5.blk (HOd.out.blk HTB.out (by simp)) (fun h => by have := (hne _ h).1; omega))
        have HRB5 := Lib.hid (oo5.blk (HOd.out.blk HRB.out (by simp)) (fun h => by have := (hne _ h).1; omega))
        have HIB5 := Lib.hid (oo5.blk (HOd.out.blk HIB.out (by simp)) (fun h => by have := (hne _ h).1; omega))
        obtain ⟨t0, t1, tl⟩ := HTB5.out.facts2
        have t2 := HTB5.out.frozen 1
        have hof := hc.off
        have HSTEP := Lib.hid (fun (w3 : World) (o3 : Only [w.heap.size + 2] w5 w3) => HAR.out.step (B0 := w.heap.size + 3) (y := .mk yk yA ycap yl) (Nat.le_refl _) HQS.out HOd.out hc.lies (fun b hb => .inr (hof b hb)) oo5 (by rw [HEL.out]; exact ho5) hA5 o3 (fun x hx => by
          simp at hx
          subst hx
          exact ⟨Nat.lt_succ_self _, fun e he hb => by have := HEO.out e he _ hb; omega, fun hb => by have := hof _ hb; have := HQS.out; omega⟩))
        have HNEW := Lib.hid (show (∀ e ∈ es ++ [Tx.mk yk yA ycap yl], ∀ b ∈ e.bks, w.heap.size + 3 ≤ b) from fun e he b hb => by
          rcases List.mem_append.1 he with he | he
          · exact HEO.out e he b hb
          · simp at he; subst he; exact Nat.le_trans HQS.out (hof b hb))
        have HTR5 := Lib.hid (show (es ++ [Tx.mk yk yA ycap yl]).map Tx.tr = (l.take (k9 + 1)).map Tx.tr by rw [HTK.out, List.map_append, HETR.out, ← hc.tr]; rfl)
        have HO5 := Lib.hid ((HOr.out.trans HOd.out (by simp)).trans oo5 (fun x hx => .inr (by have := (hne x hx).1; omega)))
        clear hR hF hz hc ho5 oo5 hA5 hne f4 hof
        gi_wp2_with (gi_at_builtin; refine wpListIn_append_run hrun rfl _ _ rfl rfl rfl rfl ?_)
        clear hrun
        go_wp2_with (fail)
        go_roundw
        case rel =>
          have os : Only [w.heap.size + 2] w5 (w5.setCell ⟨w.heap.size + 1 + 1, 1, none⟩ (.slice A5 (k9 + 1) c5)) := (Only.refl _ _).setCell (.inl (by simp)) _
          exact ⟨k9 + 1, A5, c5, _, by go_num, by omega, Lib.hid (by rw [List.length_append, HEL.out]; rfl), HTR5, Lib.hid (HSTEP.out _ os), HNEW, Lib.hid (os.blk HIB5.out (by simp)), Lib.hid (os.blk HRB5.out (by simp)), Lib.hid (HTB5.out.set_ 1 _), Lib.hid (HO5.out.trans os (fun x hx => .inr (by simp at hx; omega)))⟩
        case measure => simp [intOf]; omega
    · have hke : k9 = n9 := by omega
      have iz : ¬ (n9 : Int) < (n9 : Int) := by omega
      have HTB9 := Lib.hid (show Blk wr (w.heap.size + 2) 34 #[.int .i64 k, .slice A2 n9 c2] by rw [← hke]; exact HTB.out)
      have HLN := Lib.hid (show es.length = n9 by rw [← hke]; exact HEL.out)
      have HTR9 := Lib.hid (show es.map Tx.tr = l.map Tx.tr by have h := HETR.out; rw [hke, List.take_of_length_le (by rw [HN.out]; exact Nat.le_refl _)] at h; exact h)
      rw [hke]
      clear hke hlt hk
      obtain ⟨t0, t1, tl⟩ := HTB9.out.facts2
      obtain ⟨r0, r1, rl⟩ := HRB.out.facts2
      have g0 := HRB.out.frozen 0
      have g1 := HRB.out.frozen 1
      go_wp2_with (fail)
      have hb5 := (HRB.out.set_ 0 (.int .i64 k)).set_ 1 (.slice A2 n9 c2)
      obtain ⟨e0, e1, -⟩ := Blk.facts2 (a := .int .i64 k) (b := .slice A2 n9 c2) hb5
      refine bodyPost_ret (v := .agg #[.int .i64 k, .slice A2 n9 c2]) (by simp [results, Tryd.results19, go_sem, e0, e1]) rfl ?_
      clear e0 e1 hb5
      have o7 : Only [w.heap.size + 1] wr _ := ((Only.refl _ wr).setCell (p := ⟨w.heap.size + 1, 0, none⟩) (.inl (by simp)) (.int .i64 k)).setCell (p := ⟨w.heap.size + 1, 1, none⟩) (.inl (by simp)) (.slice A2 n9 c2)
      have hc0 : CpK (w.heap.size + 3) wr (Tx.mk k A cap l).tr (.mk k A2 c2 es) := ⟨by rw [Tx.tr_mk, HTR9.out, HT.out], (HAR.out.row (by rw [HLN.out]; omega)).bks k c2 HH.out, fun b hb => by
        rcases bks_cases hb with ⟨p, e, hp, -, rfl⟩ | ⟨a, ha, hb⟩
        · exact (HAR.out.blk p.block (by rw [hp]; simp)).1
        · exact HEO.out a ha b hb⟩
      refine ⟨.mk k A2 c2 es, by simp [Tx.val, Tx.cs, HLN.out], (hc0.only o7 (by simp)).low (by omega), HOr.out.trans o7 (fun b hb => .inr (by simp at hb; omega))⟩
end Go.Proofs.YtjhpckeoackblaaDoor
