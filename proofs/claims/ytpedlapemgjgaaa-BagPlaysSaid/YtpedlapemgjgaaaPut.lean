/- A bag in memory; Put. -/
import Derived.Test.YtpedlapemgjgaaaStable
import Derived.Test.YtpedlapemgjgaaaMerge
import Derived.Test.YtpedlapemgjgaaaRow
import Derived.Laws.MakeOwn
namespace Go.Proofs.Ytpedlapemgjgaaa
open Go.RowKit Go.Kx Go.Bag
set_option maxRecDepth 100000
theorem own_base {W : World} {base base' n size : Nat} {v : Value} {t : TypeId} {xs : List Value} (h : W.ownsRow base t size v n xs) (hb : base' ≤ base) : W.ownsRow base' t size v n xs := by
  obtain ⟨h1, h2⟩ := h
  refine ⟨h1, ?_⟩
  rcases h2 with h2 | ⟨g, cap, cur, rfl, hg, r⟩
  · exact .inl h2
  · exact .inr ⟨g, cap, cur, rfl, by omega, r⟩
/-- make([]T, 0, n) -/
theorem make_own {P : Program} (t e : TypeId) {z : Value} {bytes size : Nat} (ht : P.underlying t = some (.slice e)) (hi : (P.info? e).map (fun i => (i.zero, i.size, i.bytes)) = some (some z, size, bytes)) (n : Nat) (hbytes : bytes * n ≤ 281474976710656) (h63 : n ≤ maxLen) :
    ∃ zs : Array Value, (∀ W, (Instr.makeSlice t (.int .i64 0) (.int .i64 (n : Int))).run P W = .ok (.slice (some ⟨W.heap.size, 0, none⟩) 0 n) (W.alloc (.cells zs e))) ∧ ∀ W : World, (W.alloc (.cells zs e)).ownsRow W.heap.size e size (.slice (some ⟨W.heap.size, 0, none⟩) 0 n) 0 [] := by
  obtain ⟨i, hi, h0, h1, h2⟩ := info_parts hi
  refine ⟨madeCells z.cells (n * i.size), fun W => ?_, fun W => ?_⟩
  · have h := run_make_rowN t e i z ht hi h0 .i64 .i64 0 n (Nat.zero_le _) (by rw [h2]; exact hbytes) (by unfold maxLen at h63; omega) W
    exact h
  · exact ⟨by simp, .inr ⟨W.heap.size, n, _, rfl, Nat.le_refl _, Blk.new _ _ _, Nat.zero_le _, h63, by rw [size_madeCells, h1], by simp⟩⟩
/-- a bag in memory -/
structure BBI (B : Nat) (w : World) (g : Nat) (L : List Int) (A : Option Addr) (c : Nat) : Prop where
  blk : Blk w g 71 #[.func (.func 11) #[] #[], .slice A L.length c]
  row : w.ownsRow B 3 1 (.slice A L.length c) L.length (flat1 L)
  srt : Sorted keyI L
theorem BBI.keep {B : Nat} {w w' : World} {g : Nat} {L : List Int} {A : Option Addr} {c : Nat} (h : BBI B w g L A c) (o : Only [] w w') : BBI B w' g L A c := ⟨o.blk h.blk (by simp), ownsRow_only o h.row (by simp), h.srt⟩
theorem BBI.aside {B : Nat} {w w' : World} {g g' : Nat} {L : List Int} {A : Option Addr} {c : Nat} {cs : Array Value} (h : BBI B w g L A c) (o : Only [g'] w w') (hne : g ≠ g') (hb : Blk w g' 71 cs) : BBI B w' g L A c :=
  ⟨o.blk h.blk (by simp; exact hne), ownsRow_only o h.row (fun x hx => by
    have := owns_ne h.row hb (by decide)
    intro hx2
    simp at hx2
    subst hx2
    exact this hx), h.srt⟩
theorem row_newI (w : World) (x : Int) : RowC (w.alloc (.cells #[.int .i64 x] 3)) (some ⟨w.heap.size, 0, none⟩) (flat1 [x]) := fun j u hj => by
  refine ⟨w.heap.size, 0, rfl, by simp, ?_⟩
  have h := Blk.new w 3 #[.int .i64 x]
  rw [h.cell]
  match j, hj with
  | 0, hj => simpa [flat1] using hj
  | 1, hj => simp [flat1] at hj
set_option maxHeartbeats 4000000 in
theorem putI {B : Nat} {w : World} {g : Nat} {L : List Int} {A : Option Addr} {c : Nat} (hT : BBI B w g L A c) {Al : Option Addr} {nl cl : Nat} {M : List Int} (hM : RowC w Al (flat1 M)) (hn : M.length = nl) (hsum : L.length + nl ≤ 1000000) (hB : B ≤ w.heap.size) :
    Calls Try.prog 35 #[.pointer (some ⟨g, 0, none⟩), .slice Al nl cl] w fun e w' => e = .returned (.tuple #[]) ∧ (∃ A' c', BBI B w' g (st keyI (L ++ M)) A' c') ∧ Only [g] w w' := by
  by_cases h0 : nl = 0
  · subst h0
    have hm := List.length_eq_zero_iff.1 hn
    subst hm
    have HT := Lib.hid (show BBI B w g (st keyI (L ++ [])) A c by rw [List.append_nil, st_self hT.srt]; exact hT)
    clear hT hM hn hB
    go_enter Try.func35, Try.ntmps35
    go_wp2_with (fail)
    refine bodyPost_ret (results_none rfl _ _ _) rfl ?_
    exact ⟨rfl, ⟨A, c, HT.out⟩, Only.refl _ _⟩
  · have hcl := cloneI (c := cl) hM hn (by omega)
    have h0i : ((nl : Int) == 0) = false := beq_eq_false_iff_ne.2 (by omega)
    have HT := Lib.hid hT
    have HN := Lib.hid hn
    have HW := Lib.hid hB
    clear hT hM hn hB
    go_enter Try.func35, Try.ntmps35
    go_wp2_with (fail)
    refine hcl.mono ?_
    clear hcl
    rintro e1 w1 ⟨A1, c1, rfl, how1, o1⟩
    obtain ⟨b1, rfl⟩ : ∃ b1, A1 = some ⟨b1, 0, none⟩ := by
      rcases own_form how1 with ⟨_, h, _⟩ | ⟨h, _⟩
      · omega
      · exact h
    have hb1 := how1.lt b1 rfl
    have hs := Lib.hid (sortI M HN.out (by omega) how1)
    obtain ⟨g0, g1, gl⟩ := (o1.blk HT.out.blk (by simp)).facts2
    have O1 := Lib.hid o1
    have HB1 := Lib.hid hb1
    clear how1 o1 h0i hb1
    go_wp2_with (fail)
    refine hs.out.mono ?_
    clear hs g0 g1 gl
    rintro e2 w2 ⟨rfl, how2, o2⟩
    have o12 : Only [] w w2 := O1.out.trans o2 (fun x hx => .inr (by have := HB1.out; simp at hx; omega))
    obtain ⟨g0, g1, gl⟩ := (o12.blk HT.out.blk (by simp)).facts2
    have hT2 := HT.out.keep o12
    have h12 := o2.size
    have hs12 := o12.size
    have hb12 : b1 < w2.heap.size := by have := HB1.out; omega
    have hb13 : w.heap.size ≤ b1 := HB1.out.1
    have hg2 : g < w2.heap.size := gl
    have hgb : g < w.heap.size := HT.out.blk.lt
    obtain ⟨zs, hmk, hzo⟩ := make_own (P := Try.prog) 22 3 Try.underlying22 int_info (L.length + nl) (by omega) (by unfold maxLen; omega)
    obtain ⟨ln, hln⟩ : ∃ ln, L.length = ln := ⟨_, rfl⟩
    have hmk2 : ∀ W, (Instr.makeSlice 22 (.int .i64 0) (.int .i64 ((ln : Int) + (nl : Int)))).run Try.prog W = .ok (.slice (some ⟨W.heap.size, 0, none⟩) 0 (ln + nl)) (W.alloc (.cells zs 3)) := fun W => by
      have h := hmk W
      rw [hln] at h
      rw [show (ln : Int) + (nl : Int) = ((ln + nl : Nat) : Int) by omega]
      exact h
    have HZ := Lib.hid (hzo w2)
    rw [hln] at HZ g1 hsum
    have HO2 := Lib.hid (own_rowC (by rw [len_flat1, st_len, HN.out]) how2)
    have HOW2 := Lib.hid how2
    have HO12 := Lib.hid o12
    have HT2 := Lib.hid hT2
    have HLN := Lib.hid hln
    obtain ⟨V, hV⟩ : ∃ V, st keyI M = V := ⟨_, rfl⟩
    rw [hV] at HO2 HOW2
    have HV := Lib.hid hV
    have HVL := Lib.hid (show V.length = nl by rw [← hV, st_len]; exact HN.out)
    clear how2 o2 o12 hT2 hmk hzo hln hV h12
    go_wp2_with (fail)
    clear hmk2 g0 g1 gl
    go_loopw [5, 6, 36] (fun vo vd vk wr => ∃ (O : List Int) (d k c' : Nat) (A' : Option Addr), vo = .slice A' (d + k) c' ∧ vd = .int .i64 (d : Int) ∧ vk = .int .i64 (k : Int) ∧ d ≤ ln ∧ k ≤ nl ∧ Hid (Mrg keyI L V O d k) ∧ Hid (wr.ownsRow w2.heap.size 3 1 (.slice A' (d + k) c') (d + k) (flat1 O)) ∧ Hid (Only [] w2 wr)) (fun _ _ vk _ => nl - (intOf vk).toNat)
    case atStart => exact ⟨[], 0, 0, ln + nl, _, rfl, rfl, rfl, Nat.zero_le _, Nat.zero_le _, Lib.hid (Mrg.start _ _), HZ, Lib.hid ((Only.refl [] _).alloc _)⟩
    case round =>
      obtain ⟨wq, rfl⟩ : ∃ wq : World, wq = wr := ⟨_, rfl⟩
      obtain ⟨O, d, k, c', A', rfl, rfl, rfl, hdl, hkn, HMG, HQ, HO⟩ := hrel
      have hsz := HO.out.size
      have HT3 := Lib.hid (HT2.out.keep HO.out)
      by_cases hlt : k < nl
      · obtain ⟨x, hx⟩ : ∃ x, V[k]? = some x := ⟨_, List.getElem?_eq_getElem (by have := HVL.out; omega)⟩
        obtain ⟨q, o', hA, hq, cx0⟩ := (HO2.out.only HO.out) k _ (flat1_at hx)
        cases hA
        rw [Nat.zero_add] at cx0
        have HX := Lib.hid hx
        clear hx
        have hkl : (k : Int) < (nl : Int) := by omega
        rcases own_form HT3.out.row with ⟨rfl, hl0, hc0⟩ | ⟨⟨b0, rfl⟩, hlc⟩
        · have HZ0 := Lib.hid (show ln = 0 ∧ c = 0 from ⟨by rw [← HLN.out]; exact hl0, hc0⟩)
          have hlc : ln ≤ c := by have := HZ0.out; omega
          clear hl0 hc0
          have HT4 := Lib.hid (HT3.out.keep (Only.refl [] _))
          have HG := Lib.hid (show (wq).cell? ⟨g, 0, none⟩ = some (.func (.func 11) #[] #[]) ∧ (wq).cell? ⟨g, 1, none⟩ = some (.slice (none) ln c) ∧ g < (wq).heap.size from by
            have h := HT4.out.blk.facts2
            rw [HLN.out] at h
            exact h)
          have hrow : RowC (wq) none (flat1 (L.drop d)) := by rw [List.drop_of_length_le (by have := HZ0.out; have := HLN.out; omega)]; exact RowC.nil _ _
          have hdl2 : (L.drop d).length = (ln - d) := by rw [List.length_drop, HLN.out]
          have HB := Lib.hid (fun (W : World) (o : Only [] (wq) W) => behindI (c := (c - d)) (x := x) (hrow.only o) hdl2 (by omega) (take_drop_sorted HT4.out.srt d).2.1)
          have HRW := Lib.hid hrow
          have HST := Lib.hid (HMG.out.step HT4.out.srt (by rw [← HV.out]; exact st_sorted _) HX.out)
          have hbl := behindB_le (key := keyI) (L.drop d) (keyI x)
          rw [hdl2] at hbl
          obtain ⟨bh, hbh⟩ : ∃ bh, behindB keyI (L.drop d) (keyI x) = bh := ⟨_, rfl⟩
          rw [hbh] at HB HST hbl
          skip
          clear hbh hrow hdl2
          go_wp2_with (fail)
          refine (wpIn_wide (n := 9)).1 ?_
          refine wpIn_region_relR 15 (Only []) (fr := ?frg1) (tl := ?tlg1) (fun iq v wv => match iq with
            | 0 => v = .int .i64 (d : Nat)
            | 1 => v = .pointer (some ⟨g, 0, none⟩)
            | 2 => v = .pointer (some ⟨g, 0, none⟩)
            | 3 => v = .pointer (some ⟨g, 1, none⟩)
            | 4 => v = .slice (none) ln c
            | 5 => v = .int .i64 (d : Nat)
            | 6 => v = .slice (none) (ln - d) (c - d)
            | 7 => v = .int .i64 x
            | 8 => v = .pointer (some ⟨g, 0, none⟩)
            | 9 => v = .pointer (some ⟨g, 0, none⟩)
            | 10 => v = .pointer (some ⟨g, 0, none⟩)
            | 11 => v = .func (.func 11) #[] #[]
            | 12 => v = .int .i64 (bh : Nat)
            | 13 => v = .int .i64 ((d : Int) + (bh : Int))
            | 14 => v = .int .i64 ((d : Int) + (bh : Int))
            | _ => True) (.inl rfl) (by kernel_rfl) (by kernel_rfl) (by kernel_rfl) (by kernel_rfl) (by kernel_rfl) (by kernel_rfl) (by decide) ?htlg1 ?hfrg1 (Only.refl _ _) (fun _ _ _ h k => h.trans k (fun _ hx => .inl hx)) ?stabg1 ?stepsg1 ?doneg1
          case htlg1 => simp only [List.drop_succ_cons, List.drop_zero]; rfl
          case hfrg1 => intro vals; simp only [putAll, dstAt, Act.put, List.getElem?_toArray, List.getElem?_cons_zero, List.getElem?_cons_succ, Option.bind_some, List.setIfInBounds_toArray, List.set_cons_zero, List.set_cons_succ]; rfl
          case stabg1 =>
            intro i v wa wb h
            try dsimp only
            split <;> first | exact id
          case stepsg1 =>
            refine ⟨?_, ?_, ?_, ?_, ?_, ?_, ?_, ?_, ?_, ?_, ?_, ?_, ?_, ?_, ?_, trivial⟩
            · intro vals wr hR hp K hK
              dsimp only at hK ⊢
              clear hp
              unfold RunsOp
              go_simp
              exact hK.out _ _ ⟨_, rfl, Only.refl _ _, rfl⟩
            · intro vals wr hR hp K hK
              dsimp only at hK ⊢
              clear hp
              unfold RunsOp
              go_simp
              exact hK.out _ _ ⟨_, rfl, Only.refl _ _, rfl⟩
            · intro vals wr hR hp K hK
              dsimp only at hK ⊢
              obtain ⟨p1, -⟩ := hp
              replace p1 := p1 rfl
              dsimp only at p1
              rw [p1] at hK ⊢
              clear p1
              unfold RunsOp
              go_simp
              exact hK.out _ _ ⟨_, rfl, Only.refl _ _, rfl⟩
            · intro vals wr hR hp K hK
              dsimp only at hK ⊢
              obtain ⟨p2, -⟩ := hp
              replace p2 := p2 rfl
              dsimp only at p2
              rw [p2] at hK ⊢
              clear p2
              unfold RunsOp
              go_simp
              exact hK.out _ _ ⟨_, rfl, Only.refl _ _, rfl⟩
            · intro vals wr hR hp K hK
              dsimp only at hK ⊢
              obtain ⟨p3, -⟩ := hp
              replace p3 := p3 rfl
              dsimp only at p3
              rw [p3] at hK ⊢
              clear p3
              unfold RunsOp
              have k0 := (hR.cell (p := ⟨g, 1, none⟩) HG.out.2.2 (by simp)).trans HG.out.2.1
              go_simp
              exact hK.out _ _ ⟨_, rfl, Only.refl _ _, rfl⟩
            · intro vals wr hR hp K hK
              dsimp only at hK ⊢
              clear hp
              unfold RunsOp
              go_simp
              exact hK.out _ _ ⟨_, rfl, Only.refl _ _, rfl⟩
            · intro vals wr hR hp K hK
              dsimp only at hK ⊢
              obtain ⟨p4, p5, -⟩ := hp
              replace p4 := p4 rfl
              replace p5 := p5 rfl
              dsimp only at p4 p5
              rw [p4, p5] at hK ⊢
              clear p4 p5
              unfold RunsOp
              have i1 : (0 : Int) ≤ (d : Int) := by omega
              have i2 : (d : Int) ≤ (ln : Int) := by omega
              go_simp
              exact hK.out _ _ ⟨_, rfl, Only.refl _ _, rfl⟩
            · intro vals wr hR hp K hK
              dsimp only at hK ⊢
              clear hp
              unfold RunsOp
              go_simp
              exact hK.out _ _ ⟨_, rfl, Only.refl _ _, rfl⟩
            · intro vals wr hR hp K hK
              dsimp only at hK ⊢
              clear hp
              unfold RunsOp
              go_simp
              exact hK.out _ _ ⟨_, rfl, Only.refl _ _, rfl⟩
            · intro vals wr hR hp K hK
              dsimp only at hK ⊢
              obtain ⟨p8, -⟩ := hp
              replace p8 := p8 rfl
              dsimp only at p8
              rw [p8] at hK ⊢
              clear p8
              unfold RunsOp
              go_simp
              exact hK.out _ _ ⟨_, rfl, Only.refl _ _, rfl⟩
            · intro vals wr hR hp K hK
              dsimp only at hK ⊢
              obtain ⟨p9, -⟩ := hp
              replace p9 := p9 rfl
              dsimp only at p9
              rw [p9] at hK ⊢
              clear p9
              unfold RunsOp
              go_simp
              exact hK.out _ _ ⟨_, rfl, Only.refl _ _, rfl⟩
            · intro vals wr hR hp K hK
              dsimp only at hK ⊢
              obtain ⟨p10, -⟩ := hp
              replace p10 := p10 rfl
              dsimp only at p10
              rw [p10] at hK ⊢
              clear p10
              unfold RunsOp
              have k0 := (hR.cell (p := ⟨g, 0, none⟩) HG.out.2.2 (by simp)).trans HG.out.1
              go_simp
              exact hK.out _ _ ⟨_, rfl, Only.refl _ _, rfl⟩
            · intro vals wr hR hp K hK
              dsimp only at hK ⊢
              obtain ⟨p6, p7, p11, -⟩ := hp
              replace p6 := p6 rfl
              replace p7 := p7 rfl
              replace p11 := p11 rfl
              dsimp only at p6 p7 p11
              rw [p6, p7, p11] at hK ⊢
              clear p6 p7 p11
              unfold RunsOp
              go_simp
              refine (HB.out _ ((Only.refl [] _).drew.trans hR (by simp))).mono ?_
              rintro e' w2 ⟨rfl, o2⟩
              exact hK.out _ _ ⟨_, rfl, o2, rfl⟩
            · intro vals wr hR hp K hK
              dsimp only at hK ⊢
              obtain ⟨p0, p12, -⟩ := hp
              replace p0 := p0 rfl
              replace p12 := p12 rfl
              dsimp only at p0 p12
              rw [p0, p12] at hK ⊢
              clear p0 p12
              unfold RunsOp
              have hwr : IntKind.i64.wrap ((d : Int) + (bh : Int)) = (d : Int) + (bh : Int) := IntWalk.i64_in _ (by omega)
              go_simp
              exact hK.out _ _ ⟨_, rfl, Only.refl _ _, rfl⟩
            · intro vals wr hR hp K hK
              dsimp only at hK ⊢
              obtain ⟨p13, -, -, -, -, -, -, -, -, -, -, -, -, -, -, -, -⟩ := hp
              replace p13 := p13 rfl
              dsimp only at p13
              rw [p13] at hK ⊢
              clear p13
              unfold RunsOp
              go_simp
              exact hK.out _ _ ⟨_, rfl, Only.refl _ _, rfl⟩
          case doneg1 =>
            intro vals wd hR hF
            have f0 : vals 0 = .int .i64 (d : Nat) := hF 0 (by decide)
            have f1 : vals 1 = .pointer (some ⟨g, 0, none⟩) := hF 1 (by decide)
            have f2 : vals 2 = .pointer (some ⟨g, 0, none⟩) := hF 2 (by decide)
            have f3 : vals 3 = .pointer (some ⟨g, 1, none⟩) := hF 3 (by decide)
            have f4 : vals 4 = .slice (none) ln c := hF 4 (by decide)
            have f5 : vals 5 = .int .i64 (d : Nat) := hF 5 (by decide)
            have f6 : vals 6 = .slice (none) (ln - d) (c - d) := hF 6 (by decide)
            have f7 : vals 7 = .int .i64 x := hF 7 (by decide)
            have f8 : vals 8 = .pointer (some ⟨g, 0, none⟩) := hF 8 (by decide)
            have f9 : vals 9 = .pointer (some ⟨g, 0, none⟩) := hF 9 (by decide)
            have f10 : vals 10 = .pointer (some ⟨g, 0, none⟩) := hF 10 (by decide)
            have f11 : vals 11 = .func (.func 11) #[] #[] := hF 11 (by decide)
            have f12 : (vals 12) = .int .i64 (bh : Nat) := hF 12 (by decide)
            have f13 : vals 13 = .int .i64 ((d : Int) + (bh : Int)) := hF 13 (by decide)
            have f14 : vals 14 = .int .i64 ((d : Int) + (bh : Int)) := hF 14 (by decide)
            rw [f0, f1, f2, f3, f4, f5, f6, f7, f8, f9, f10, f11, f13, f14]
            clear f0 f1 f2 f3 f4 f5 f6 f7 f8 f9 f10 f11 f13 f14
            rw [f12]
            clear f12
            have HOd := Lib.hid ((Only.refl [] (wq)).drew.trans hR (by simp))
            clear hR hF
            have hQ8 := ownsRow_only HOd.out (ownsRow_only ((Only.refl [] _)) HQ.out (by simp)) (by simp)
            have hU : RowC wd (none) (flat1 ((L.drop d).take bh)) := by
              have h := (HRW.out.only HOd.out).take (bh * 1)
              rw [Nat.mul_one, flat1_take] at h
              exact h
            have hsz8 := HOd.out.size
            have hsz7 : wq.heap.size ≤ (wq).heap.size := (show Only [] wq (wq) from (Only.refl [] _)).size
            obtain ⟨A5, c5, w5, hr5, ho5, hg5, -⟩ := run_append_rowC (P := Try.prog) (t := 22) (e := 3) (c := (c - d)) (m := bh) 22 (by omega) Try.underlying22 int_info rfl hQ8 hU (flat1_one _) (by rw [len_flat1, List.length_take, List.length_drop, HLN.out]; congr 1; omega) (by omega) (by unfold maxLen; omega) (by omega)
            have hsz5 := hg5.size
            obtain ⟨A6, c6, w6, hr6, ho6, hg6, -⟩ := run_append_rowC (P := Try.prog) (t := 22) (e := 3) (c := 1) (m := 1) 22 (by omega) Try.underlying22 int_info rfl (ho5.alloc (.cells #[.int .i64 x] 3)) (row_newI w5 x) (flat1_one _) (by rw [len_flat1]; rfl) (by simp; omega) (by unfold maxLen; omega) (by omega)
            have HQ6 := Lib.hid (show w6.ownsRow w2.heap.size 3 1 (.slice A6 (d + k + bh + 1) c6) (d + k + bh + 1) (flat1 ((O ++ (L.drop d).take bh) ++ [x])) by rw [flat1_append, flat1_append]; exact ho6)
            have o8 : Only [] w2 wd := (HO.out.trans ((Only.refl [] _)) (by simp)).trans HOd.out (by simp)
            have o5 : Only [] w2 w5 := o8.trans hg5 (fun y hy => .inr (by
              have := hQ8.lt y (by simpa using hy)
              omega))
            have HO6 := Lib.hid (show Only [] w2 w6 from (o5.alloc _).trans hg6 (fun y hy => .inr (by
              have := ho5.lt y (by simpa using hy)
              omega)))
            have g1 : wd.cell? ⟨g, 1, none⟩ = some (.slice (none) ln c) := (HOd.out.cell (p := ⟨g, 1, none⟩) HG.out.2.2 (by simp)).trans HG.out.2.1
            have gl : g < wd.heap.size := by have := HG.out.2.2; omega
            have j0 : (0 : Int) ≤ (d : Int) := by omega
            have j1 : (d : Int) ≤ (d : Int) + (bh : Int) := by omega
            have j2 : (d : Int) + (bh : Int) ≤ (c : Int) := by have := HZ0.out; omega
            have j3 : ((d : Int) + (bh : Int)).toNat - d = bh := by omega
            skip
            clear hQ8 hU ho5 ho6 hg5 hg6 o8 o5 HB HRW HG HT4
            gi_wp2_with (fail)
            go_wp2_with (at_builtin; first | (refine wpList_append_run hr5 rfl _ _ rfl rfl rfl rfl ?_; clear hr5) | (refine wpList_append_run hr6 rfl _ _ rfl rfl rfl rfl ?_; clear hr6))
            go_roundw
            case rel => exact ⟨_, d + bh, k + 1, c6, A6, by rw [show d + k + bh + 1 = d + bh + (k + 1) by omega], by go_num, by go_num, by omega, by omega, HST, by rw [show d + bh + (k + 1) = d + k + bh + 1 by omega]; exact HQ6, HO6⟩
            case measure => simp [intOf]; omega
        · rw [HLN.out] at hlc
          by_cases hce : c = d
          · obtain rfl : d = c := hce.symm
            obtain rfl : d = ln := by omega
            have HT4 := Lib.hid (HT3.out.keep (Only.refl [] _))
            have HG := Lib.hid (show (wq).cell? ⟨g, 0, none⟩ = some (.func (.func 11) #[] #[]) ∧ (wq).cell? ⟨g, 1, none⟩ = some (.slice (some ⟨b0, 0, none⟩) d d) ∧ g < (wq).heap.size from by
              have h := HT4.out.blk.facts2
              rw [HLN.out] at h
              exact h)
            have hrow : RowC (wq) (some ⟨b0, 0, none⟩) (flat1 (L.drop d)) := by rw [List.drop_of_length_le (by have := HLN.out; omega)]; exact RowC.nil _ _
            have hdl2 : (L.drop d).length = 0 := by rw [List.length_drop, HLN.out]; omega
            have HB := Lib.hid (fun (W : World) (o : Only [] (wq) W) => behindI (c := 0) (x := x) (hrow.only o) hdl2 (by omega) (take_drop_sorted HT4.out.srt d).2.1)
            have HRW := Lib.hid hrow
            have HST := Lib.hid (HMG.out.step HT4.out.srt (by rw [← HV.out]; exact st_sorted _) HX.out)
            have hbl := behindB_le (key := keyI) (L.drop d) (keyI x)
            rw [hdl2] at hbl
            obtain ⟨bh, hbh⟩ : ∃ bh, behindB keyI (L.drop d) (keyI x) = bh := ⟨_, rfl⟩
            rw [hbh] at HB HST hbl
            skip
            clear hbh hrow hdl2
            go_wp2_with (fail)
            refine (wpIn_wide (n := 9)).1 ?_
            refine wpIn_region_relR 15 (Only []) (fr := ?frg2) (tl := ?tlg2) (fun iq v wv => match iq with
              | 0 => v = .int .i64 (d : Nat)
              | 1 => v = .pointer (some ⟨g, 0, none⟩)
              | 2 => v = .pointer (some ⟨g, 0, none⟩)
              | 3 => v = .pointer (some ⟨g, 1, none⟩)
              | 4 => v = .slice (some ⟨b0, 0, none⟩) d d
              | 5 => v = .int .i64 (d : Nat)
              | 6 => v = .slice (some ⟨b0, 0, none⟩) 0 0
              | 7 => v = .int .i64 x
              | 8 => v = .pointer (some ⟨g, 0, none⟩)
              | 9 => v = .pointer (some ⟨g, 0, none⟩)
              | 10 => v = .pointer (some ⟨g, 0, none⟩)
              | 11 => v = .func (.func 11) #[] #[]
              | 12 => v = .int .i64 (bh : Nat)
              | 13 => v = .int .i64 ((d : Int) + (bh : Int))
              | 14 => v = .int .i64 ((d : Int) + (bh : Int))
              | _ => True) (.inl rfl) (by kernel_rfl) (by kernel_rfl) (by kernel_rfl) (by kernel_rfl) (by kernel_rfl) (by kernel_rfl) (by decide) ?htlg2 ?hfrg2 (Only.refl _ _) (fun _ _ _ h k => h.trans k (fun _ hx => .inl hx)) ?stabg2 ?stepsg2 ?doneg2
            case htlg2 => simp only [List.drop_succ_cons, List.drop_zero]; rfl
            case hfrg2 => intro vals; simp only [putAll, dstAt, Act.put, List.getElem?_toArray, List.getElem?_cons_zero, List.getElem?_cons_succ, Option.bind_some, List.setIfInBounds_toArray, List.set_cons_zero, List.set_cons_succ]; rfl
            case stabg2 =>
              intro i v wa wb h
              try dsimp only
              split <;> first | exact id
            case stepsg2 =>
              refine ⟨?_, ?_, ?_, ?_, ?_, ?_, ?_, ?_, ?_, ?_, ?_, ?_, ?_, ?_, ?_, trivial⟩
              · intro vals wr hR hp K hK
                dsimp only at hK ⊢
                clear hp
                unfold RunsOp
                go_simp
                exact hK.out _ _ ⟨_, rfl, Only.refl _ _, rfl⟩
              · intro vals wr hR hp K hK
                dsimp only at hK ⊢
                clear hp
                unfold RunsOp
                go_simp
                exact hK.out _ _ ⟨_, rfl, Only.refl _ _, rfl⟩
              · intro vals wr hR hp K hK
                dsimp only at hK ⊢
                obtain ⟨p1, -⟩ := hp
                replace p1 := p1 rfl
                dsimp only at p1
                rw [p1] at hK ⊢
                clear p1
                unfold RunsOp
                go_simp
                exact hK.out _ _ ⟨_, rfl, Only.refl _ _, rfl⟩
              · intro vals wr hR hp K hK
                dsimp only at hK ⊢
                obtain ⟨p2, -⟩ := hp
                replace p2 := p2 rfl
                dsimp only at p2
                rw [p2] at hK ⊢
                clear p2
                unfold RunsOp
                go_simp
                exact hK.out _ _ ⟨_, rfl, Only.refl _ _, rfl⟩
              · intro vals wr hR hp K hK
                dsimp only at hK ⊢
                obtain ⟨p3, -⟩ := hp
                replace p3 := p3 rfl
                dsimp only at p3
                rw [p3] at hK ⊢
                clear p3
                unfold RunsOp
                have k0 := (hR.cell (p := ⟨g, 1, none⟩) HG.out.2.2 (by simp)).trans HG.out.2.1
                go_simp
                exact hK.out _ _ ⟨_, rfl, Only.refl _ _, rfl⟩
              · intro vals wr hR hp K hK
                dsimp only at hK ⊢
                clear hp
                unfold RunsOp
                go_simp
                exact hK.out _ _ ⟨_, rfl, Only.refl _ _, rfl⟩
              · intro vals wr hR hp K hK
                dsimp only at hK ⊢
                obtain ⟨p4, p5, -⟩ := hp
                replace p4 := p4 rfl
                replace p5 := p5 rfl
                dsimp only at p4 p5
                rw [p4, p5] at hK ⊢
                clear p4 p5
                unfold RunsOp
                have i1 : (0 : Int) ≤ (d : Int) := by omega
                have i2 : (d : Int) ≤ (d : Int) := by omega
                go_simp
                exact hK.out _ _ ⟨_, rfl, Only.refl _ _, rfl⟩
              · intro vals wr hR hp K hK
                dsimp only at hK ⊢
                clear hp
                unfold RunsOp
                go_simp
                exact hK.out _ _ ⟨_, rfl, Only.refl _ _, rfl⟩
              · intro vals wr hR hp K hK
                dsimp only at hK ⊢
                clear hp
                unfold RunsOp
                go_simp
                exact hK.out _ _ ⟨_, rfl, Only.refl _ _, rfl⟩
              · intro vals wr hR hp K hK
                dsimp only at hK ⊢
                obtain ⟨p8, -⟩ := hp
                replace p8 := p8 rfl
                dsimp only at p8
                rw [p8] at hK ⊢
                clear p8
                unfold RunsOp
                go_simp
                exact hK.out _ _ ⟨_, rfl, Only.refl _ _, rfl⟩
              · intro vals wr hR hp K hK
                dsimp only at hK ⊢
                obtain ⟨p9, -⟩ := hp
                replace p9 := p9 rfl
                dsimp only at p9
                rw [p9] at hK ⊢
                clear p9
                unfold RunsOp
                go_simp
                exact hK.out _ _ ⟨_, rfl, Only.refl _ _, rfl⟩
              · intro vals wr hR hp K hK
                dsimp only at hK ⊢
                obtain ⟨p10, -⟩ := hp
                replace p10 := p10 rfl
                dsimp only at p10
                rw [p10] at hK ⊢
                clear p10
                unfold RunsOp
                have k0 := (hR.cell (p := ⟨g, 0, none⟩) HG.out.2.2 (by simp)).trans HG.out.1
                go_simp
                exact hK.out _ _ ⟨_, rfl, Only.refl _ _, rfl⟩
              · intro vals wr hR hp K hK
                dsimp only at hK ⊢
                obtain ⟨p6, p7, p11, -⟩ := hp
                replace p6 := p6 rfl
                replace p7 := p7 rfl
                replace p11 := p11 rfl
                dsimp only at p6 p7 p11
                rw [p6, p7, p11] at hK ⊢
                clear p6 p7 p11
                unfold RunsOp
                go_simp
                refine (HB.out _ ((Only.refl [] _).drew.trans hR (by simp))).mono ?_
                rintro e' w2 ⟨rfl, o2⟩
                exact hK.out _ _ ⟨_, rfl, o2, rfl⟩
              · intro vals wr hR hp K hK
                dsimp only at hK ⊢
                obtain ⟨p0, p12, -⟩ := hp
                replace p0 := p0 rfl
                replace p12 := p12 rfl
                dsimp only at p0 p12
                rw [p0, p12] at hK ⊢
                clear p0 p12
                unfold RunsOp
                have hwr : IntKind.i64.wrap ((d : Int) + (bh : Int)) = (d : Int) + (bh : Int) := IntWalk.i64_in _ (by omega)
                go_simp
                exact hK.out _ _ ⟨_, rfl, Only.refl _ _, rfl⟩
              · intro vals wr hR hp K hK
                dsimp only at hK ⊢
                obtain ⟨p13, -, -, -, -, -, -, -, -, -, -, -, -, -, -, -, -⟩ := hp
                replace p13 := p13 rfl
                dsimp only at p13
                rw [p13] at hK ⊢
                clear p13
                unfold RunsOp
                go_simp
                exact hK.out _ _ ⟨_, rfl, Only.refl _ _, rfl⟩
            case doneg2 =>
              intro vals wd hR hF
              have f0 : vals 0 = .int .i64 (d : Nat) := hF 0 (by decide)
              have f1 : vals 1 = .pointer (some ⟨g, 0, none⟩) := hF 1 (by decide)
              have f2 : vals 2 = .pointer (some ⟨g, 0, none⟩) := hF 2 (by decide)
              have f3 : vals 3 = .pointer (some ⟨g, 1, none⟩) := hF 3 (by decide)
              have f4 : vals 4 = .slice (some ⟨b0, 0, none⟩) d d := hF 4 (by decide)
              have f5 : vals 5 = .int .i64 (d : Nat) := hF 5 (by decide)
              have f6 : vals 6 = .slice (some ⟨b0, 0, none⟩) 0 0 := hF 6 (by decide)
              have f7 : vals 7 = .int .i64 x := hF 7 (by decide)
              have f8 : vals 8 = .pointer (some ⟨g, 0, none⟩) := hF 8 (by decide)
              have f9 : vals 9 = .pointer (some ⟨g, 0, none⟩) := hF 9 (by decide)
              have f10 : vals 10 = .pointer (some ⟨g, 0, none⟩) := hF 10 (by decide)
              have f11 : vals 11 = .func (.func 11) #[] #[] := hF 11 (by decide)
              have f12 : (vals 12) = .int .i64 (bh : Nat) := hF 12 (by decide)
              have f13 : vals 13 = .int .i64 ((d : Int) + (bh : Int)) := hF 13 (by decide)
              have f14 : vals 14 = .int .i64 ((d : Int) + (bh : Int)) := hF 14 (by decide)
              rw [f0, f1, f2, f3, f4, f5, f6, f7, f8, f9, f10, f11, f13, f14]
              clear f0 f1 f2 f3 f4 f5 f6 f7 f8 f9 f10 f11 f13 f14
              rw [f12]
              clear f12
              have HOd := Lib.hid ((Only.refl [] (wq)).drew.trans hR (by simp))
              clear hR hF
              have hQ8 := ownsRow_only HOd.out (ownsRow_only ((Only.refl [] _)) HQ.out (by simp)) (by simp)
              have hU : RowC wd (some ⟨b0, 0, none⟩) (flat1 ((L.drop d).take bh)) := by
                have h := (HRW.out.only HOd.out).take (bh * 1)
                rw [Nat.mul_one, flat1_take] at h
                exact h
              have hsz8 := HOd.out.size
              have hsz7 : wq.heap.size ≤ (wq).heap.size := (show Only [] wq (wq) from (Only.refl [] _)).size
              obtain ⟨A5, c5, w5, hr5, ho5, hg5, -⟩ := run_append_rowC (P := Try.prog) (t := 22) (e := 3) (c := 0) (m := bh) 22 (by omega) Try.underlying22 int_info rfl hQ8 hU (flat1_one _) (by rw [len_flat1, List.length_take, List.length_drop, HLN.out]; congr 1; omega) (by omega) (by unfold maxLen; omega) (by omega)
              have hsz5 := hg5.size
              obtain ⟨A6, c6, w6, hr6, ho6, hg6, -⟩ := run_append_rowC (P := Try.prog) (t := 22) (e := 3) (c := 1) (m := 1) 22 (by omega) Try.underlying22 int_info rfl (ho5.alloc (.cells #[.int .i64 x] 3)) (row_newI w5 x) (flat1_one _) (by rw [len_flat1]; rfl) (by simp; omega) (by unfold maxLen; omega) (by omega)
              have HQ6 := Lib.hid (show w6.ownsRow w2.heap.size 3 1 (.slice A6 (d + k + bh + 1) c6) (d + k + bh + 1) (flat1 ((O ++ (L.drop d).take bh) ++ [x])) by rw [flat1_append, flat1_append]; exact ho6)
              have o8 : Only [] w2 wd := (HO.out.trans ((Only.refl [] _)) (by simp)).trans HOd.out (by simp)
              have o5 : Only [] w2 w5 := o8.trans hg5 (fun y hy => .inr (by
                have := hQ8.lt y (by simpa using hy)
                omega))
              have HO6 := Lib.hid (show Only [] w2 w6 from (o5.alloc _).trans hg6 (fun y hy => .inr (by
                have := ho5.lt y (by simpa using hy)
                omega)))
              have g1 : wd.cell? ⟨g, 1, none⟩ = some (.slice (some ⟨b0, 0, none⟩) d d) := (HOd.out.cell (p := ⟨g, 1, none⟩) HG.out.2.2 (by simp)).trans HG.out.2.1
              have gl : g < wd.heap.size := by have := HG.out.2.2; omega
              have j0 : (0 : Int) ≤ (d : Int) := by omega
              have j1 : (d : Int) ≤ (d : Int) + (bh : Int) := by omega
              have j2 : (d : Int) + (bh : Int) ≤ (d : Int) := by omega
              have j3 : ((d : Int) + (bh : Int)).toNat - d = bh := by omega
              skip
              clear hQ8 hU ho5 ho6 hg5 hg6 o8 o5 HB HRW HG HT4
              gi_wp2_with (fail)
              go_wp2_with (at_builtin; first | (refine wpList_append_run hr5 rfl _ _ rfl rfl rfl rfl ?_; clear hr5) | (refine wpList_append_run hr6 rfl _ _ rfl rfl rfl rfl ?_; clear hr6))
              go_roundw
              case rel => exact ⟨_, d + bh, k + 1, c6, A6, by rw [show d + k + bh + 1 = d + bh + (k + 1) by omega], by go_num, by go_num, by omega, by omega, HST, by rw [show d + bh + (k + 1) = d + k + bh + 1 by omega]; exact HQ6, HO6⟩
              case measure => simp [intOf]; omega
          · skip
            have HT4 := Lib.hid (HT3.out.keep (Only.refl [] _))
            have HG := Lib.hid (show (wq).cell? ⟨g, 0, none⟩ = some (.func (.func 11) #[] #[]) ∧ (wq).cell? ⟨g, 1, none⟩ = some (.slice (some ⟨b0, 0, none⟩) ln c) ∧ g < (wq).heap.size from by
              have h := HT4.out.blk.facts2
              rw [HLN.out] at h
              exact h)
            have hrow := (own_rowC (by rw [len_flat1]) HT4.out.row).drop (d * 1)
            rw [Nat.zero_add, Nat.mul_one, flat1_drop] at hrow
            have hdl2 : (L.drop d).length = (ln - d) := by rw [List.length_drop, HLN.out]
            have HB := Lib.hid (fun (W : World) (o : Only [] (wq) W) => behindI (c := (c - d)) (x := x) (hrow.only o) hdl2 (by omega) (take_drop_sorted HT4.out.srt d).2.1)
            have HRW := Lib.hid hrow
            have HST := Lib.hid (HMG.out.step HT4.out.srt (by rw [← HV.out]; exact st_sorted _) HX.out)
            have hbl := behindB_le (key := keyI) (L.drop d) (keyI x)
            rw [hdl2] at hbl
            obtain ⟨bh, hbh⟩ : ∃ bh, behindB keyI (L.drop d) (keyI x) = bh := ⟨_, rfl⟩
            rw [hbh] at HB HST hbl
            skip
            clear hbh hrow hdl2
            go_wp2_with (fail)
            refine (wpIn_wide (n := 9)).1 ?_
            refine wpIn_region_relR 15 (Only []) (fr := ?frg3) (tl := ?tlg3) (fun iq v wv => match iq with
              | 0 => v = .int .i64 (d : Nat)
              | 1 => v = .pointer (some ⟨g, 0, none⟩)
              | 2 => v = .pointer (some ⟨g, 0, none⟩)
              | 3 => v = .pointer (some ⟨g, 1, none⟩)
              | 4 => v = .slice (some ⟨b0, 0, none⟩) ln c
              | 5 => v = .int .i64 (d : Nat)
              | 6 => v = .slice (some ⟨b0, d, none⟩) (ln - d) (c - d)
              | 7 => v = .int .i64 x
              | 8 => v = .pointer (some ⟨g, 0, none⟩)
              | 9 => v = .pointer (some ⟨g, 0, none⟩)
              | 10 => v = .pointer (some ⟨g, 0, none⟩)
              | 11 => v = .func (.func 11) #[] #[]
              | 12 => v = .int .i64 (bh : Nat)
              | 13 => v = .int .i64 ((d : Int) + (bh : Int))
              | 14 => v = .int .i64 ((d : Int) + (bh : Int))
              | _ => True) (.inl rfl) (by kernel_rfl) (by kernel_rfl) (by kernel_rfl) (by kernel_rfl) (by kernel_rfl) (by kernel_rfl) (by decide) ?htlg3 ?hfrg3 (Only.refl _ _) (fun _ _ _ h k => h.trans k (fun _ hx => .inl hx)) ?stabg3 ?stepsg3 ?doneg3
            case htlg3 => simp only [List.drop_succ_cons, List.drop_zero]; rfl
            case hfrg3 => intro vals; simp only [putAll, dstAt, Act.put, List.getElem?_toArray, List.getElem?_cons_zero, List.getElem?_cons_succ, Option.bind_some, List.setIfInBounds_toArray, List.set_cons_zero, List.set_cons_succ]; rfl
            case stabg3 =>
              intro i v wa wb h
              try dsimp only
              split <;> first | exact id
            case stepsg3 =>
              refine ⟨?_, ?_, ?_, ?_, ?_, ?_, ?_, ?_, ?_, ?_, ?_, ?_, ?_, ?_, ?_, trivial⟩
              · intro vals wr hR hp K hK
                dsimp only at hK ⊢
                clear hp
                unfold RunsOp
                go_simp
                exact hK.out _ _ ⟨_, rfl, Only.refl _ _, rfl⟩
              · intro vals wr hR hp K hK
                dsimp only at hK ⊢
                clear hp
                unfold RunsOp
                go_simp
                exact hK.out _ _ ⟨_, rfl, Only.refl _ _, rfl⟩
              · intro vals wr hR hp K hK
                dsimp only at hK ⊢
                obtain ⟨p1, -⟩ := hp
                replace p1 := p1 rfl
                dsimp only at p1
                rw [p1] at hK ⊢
                clear p1
                unfold RunsOp
                go_simp
                exact hK.out _ _ ⟨_, rfl, Only.refl _ _, rfl⟩
              · intro vals wr hR hp K hK
                dsimp only at hK ⊢
                obtain ⟨p2, -⟩ := hp
                replace p2 := p2 rfl
                dsimp only at p2
                rw [p2] at hK ⊢
                clear p2
                unfold RunsOp
                go_simp
                exact hK.out _ _ ⟨_, rfl, Only.refl _ _, rfl⟩
              · intro vals wr hR hp K hK
                dsimp only at hK ⊢
                obtain ⟨p3, -⟩ := hp
                replace p3 := p3 rfl
                dsimp only at p3
                rw [p3] at hK ⊢
                clear p3
                unfold RunsOp
                have k0 := (hR.cell (p := ⟨g, 1, none⟩) HG.out.2.2 (by simp)).trans HG.out.2.1
                go_simp
                exact hK.out _ _ ⟨_, rfl, Only.refl _ _, rfl⟩
              · intro vals wr hR hp K hK
                dsimp only at hK ⊢
                clear hp
                unfold RunsOp
                go_simp
                exact hK.out _ _ ⟨_, rfl, Only.refl _ _, rfl⟩
              · intro vals wr hR hp K hK
                dsimp only at hK ⊢
                obtain ⟨p4, p5, -⟩ := hp
                replace p4 := p4 rfl
                replace p5 := p5 rfl
                dsimp only at p4 p5
                rw [p4, p5] at hK ⊢
                clear p4 p5
                unfold RunsOp
                have i1 : (0 : Int) ≤ (d : Int) := by omega
                have i2 : (d : Int) ≤ (ln : Int) := by omega
                go_simp
                exact hK.out _ _ ⟨_, rfl, Only.refl _ _, rfl⟩
              · intro vals wr hR hp K hK
                dsimp only at hK ⊢
                clear hp
                unfold RunsOp
                go_simp
                exact hK.out _ _ ⟨_, rfl, Only.refl _ _, rfl⟩
              · intro vals wr hR hp K hK
                dsimp only at hK ⊢
                clear hp
                unfold RunsOp
                go_simp
                exact hK.out _ _ ⟨_, rfl, Only.refl _ _, rfl⟩
              · intro vals wr hR hp K hK
                dsimp only at hK ⊢
                obtain ⟨p8, -⟩ := hp
                replace p8 := p8 rfl
                dsimp only at p8
                rw [p8] at hK ⊢
                clear p8
                unfold RunsOp
                go_simp
                exact hK.out _ _ ⟨_, rfl, Only.refl _ _, rfl⟩
              · intro vals wr hR hp K hK
                dsimp only at hK ⊢
                obtain ⟨p9, -⟩ := hp
                replace p9 := p9 rfl
                dsimp only at p9
                rw [p9] at hK ⊢
                clear p9
                unfold RunsOp
                go_simp
                exact hK.out _ _ ⟨_, rfl, Only.refl _ _, rfl⟩
              · intro vals wr hR hp K hK
                dsimp only at hK ⊢
                obtain ⟨p10, -⟩ := hp
                replace p10 := p10 rfl
                dsimp only at p10
                rw [p10] at hK ⊢
                clear p10
                unfold RunsOp
                have k0 := (hR.cell (p := ⟨g, 0, none⟩) HG.out.2.2 (by simp)).trans HG.out.1
                go_simp
                exact hK.out _ _ ⟨_, rfl, Only.refl _ _, rfl⟩
              · intro vals wr hR hp K hK
                dsimp only at hK ⊢
                obtain ⟨p6, p7, p11, -⟩ := hp
                replace p6 := p6 rfl
                replace p7 := p7 rfl
                replace p11 := p11 rfl
                dsimp only at p6 p7 p11
                rw [p6, p7, p11] at hK ⊢
                clear p6 p7 p11
                unfold RunsOp
                go_simp
                refine (HB.out _ ((Only.refl [] _).drew.trans hR (by simp))).mono ?_
                rintro e' w2 ⟨rfl, o2⟩
                exact hK.out _ _ ⟨_, rfl, o2, rfl⟩
              · intro vals wr hR hp K hK
                dsimp only at hK ⊢
                obtain ⟨p0, p12, -⟩ := hp
                replace p0 := p0 rfl
                replace p12 := p12 rfl
                dsimp only at p0 p12
                rw [p0, p12] at hK ⊢
                clear p0 p12
                unfold RunsOp
                have hwr : IntKind.i64.wrap ((d : Int) + (bh : Int)) = (d : Int) + (bh : Int) := IntWalk.i64_in _ (by omega)
                go_simp
                exact hK.out _ _ ⟨_, rfl, Only.refl _ _, rfl⟩
              · intro vals wr hR hp K hK
                dsimp only at hK ⊢
                obtain ⟨p13, -, -, -, -, -, -, -, -, -, -, -, -, -, -, -, -⟩ := hp
                replace p13 := p13 rfl
                dsimp only at p13
                rw [p13] at hK ⊢
                clear p13
                unfold RunsOp
                go_simp
                exact hK.out _ _ ⟨_, rfl, Only.refl _ _, rfl⟩
            case doneg3 =>
              intro vals wd hR hF
              have f0 : vals 0 = .int .i64 (d : Nat) := hF 0 (by decide)
              have f1 : vals 1 = .pointer (some ⟨g, 0, none⟩) := hF 1 (by decide)
              have f2 : vals 2 = .pointer (some ⟨g, 0, none⟩) := hF 2 (by decide)
              have f3 : vals 3 = .pointer (some ⟨g, 1, none⟩) := hF 3 (by decide)
              have f4 : vals 4 = .slice (some ⟨b0, 0, none⟩) ln c := hF 4 (by decide)
              have f5 : vals 5 = .int .i64 (d : Nat) := hF 5 (by decide)
              have f6 : vals 6 = .slice (some ⟨b0, d, none⟩) (ln - d) (c - d) := hF 6 (by decide)
              have f7 : vals 7 = .int .i64 x := hF 7 (by decide)
              have f8 : vals 8 = .pointer (some ⟨g, 0, none⟩) := hF 8 (by decide)
              have f9 : vals 9 = .pointer (some ⟨g, 0, none⟩) := hF 9 (by decide)
              have f10 : vals 10 = .pointer (some ⟨g, 0, none⟩) := hF 10 (by decide)
              have f11 : vals 11 = .func (.func 11) #[] #[] := hF 11 (by decide)
              have f12 : (vals 12) = .int .i64 (bh : Nat) := hF 12 (by decide)
              have f13 : vals 13 = .int .i64 ((d : Int) + (bh : Int)) := hF 13 (by decide)
              have f14 : vals 14 = .int .i64 ((d : Int) + (bh : Int)) := hF 14 (by decide)
              rw [f0, f1, f2, f3, f4, f5, f6, f7, f8, f9, f10, f11, f13, f14]
              clear f0 f1 f2 f3 f4 f5 f6 f7 f8 f9 f10 f11 f13 f14
              rw [f12]
              clear f12
              have HOd := Lib.hid ((Only.refl [] (wq)).drew.trans hR (by simp))
              clear hR hF
              have hQ8 := ownsRow_only HOd.out (ownsRow_only ((Only.refl [] _)) HQ.out (by simp)) (by simp)
              have hU : RowC wd (some ⟨b0, d, none⟩) (flat1 ((L.drop d).take bh)) := by
                have h := (HRW.out.only HOd.out).take (bh * 1)
                rw [Nat.mul_one, flat1_take] at h
                exact h
              have hsz8 := HOd.out.size
              have hsz7 : wq.heap.size ≤ (wq).heap.size := (show Only [] wq (wq) from (Only.refl [] _)).size
              obtain ⟨A5, c5, w5, hr5, ho5, hg5, -⟩ := run_append_rowC (P := Try.prog) (t := 22) (e := 3) (c := (c - d)) (m := bh) 22 (by omega) Try.underlying22 int_info rfl hQ8 hU (flat1_one _) (by rw [len_flat1, List.length_take, List.length_drop, HLN.out]; congr 1; omega) (by omega) (by unfold maxLen; omega) (by omega)
              have hsz5 := hg5.size
              obtain ⟨A6, c6, w6, hr6, ho6, hg6, -⟩ := run_append_rowC (P := Try.prog) (t := 22) (e := 3) (c := 1) (m := 1) 22 (by omega) Try.underlying22 int_info rfl (ho5.alloc (.cells #[.int .i64 x] 3)) (row_newI w5 x) (flat1_one _) (by rw [len_flat1]; rfl) (by simp; omega) (by unfold maxLen; omega) (by omega)
              have HQ6 := Lib.hid (show w6.ownsRow w2.heap.size 3 1 (.slice A6 (d + k + bh + 1) c6) (d + k + bh + 1) (flat1 ((O ++ (L.drop d).take bh) ++ [x])) by rw [flat1_append, flat1_append]; exact ho6)
              have o8 : Only [] w2 wd := (HO.out.trans ((Only.refl [] _)) (by simp)).trans HOd.out (by simp)
              have o5 : Only [] w2 w5 := o8.trans hg5 (fun y hy => .inr (by
                have := hQ8.lt y (by simpa using hy)
                omega))
              have HO6 := Lib.hid (show Only [] w2 w6 from (o5.alloc _).trans hg6 (fun y hy => .inr (by
                have := ho5.lt y (by simpa using hy)
                omega)))
              have g1 : wd.cell? ⟨g, 1, none⟩ = some (.slice (some ⟨b0, 0, none⟩) ln c) := (HOd.out.cell (p := ⟨g, 1, none⟩) HG.out.2.2 (by simp)).trans HG.out.2.1
              have gl : g < wd.heap.size := by have := HG.out.2.2; omega
              have j0 : (0 : Int) ≤ (d : Int) := by omega
              have j1 : (d : Int) ≤ (d : Int) + (bh : Int) := by omega
              have j2 : (d : Int) + (bh : Int) ≤ (c : Int) := by omega
              have j3 : ((d : Int) + (bh : Int)).toNat - d = bh := by omega
              skip
              clear hQ8 hU ho5 ho6 hg5 hg6 o8 o5 HB HRW HG HT4
              gi_wp2_with (fail)
              go_wp2_with (at_builtin; first | (refine wpList_append_run hr5 rfl _ _ rfl rfl rfl rfl ?_; clear hr5) | (refine wpList_append_run hr6 rfl _ _ rfl rfl rfl rfl ?_; clear hr6))
              go_roundw
              case rel => exact ⟨_, d + bh, k + 1, c6, A6, by rw [show d + k + bh + 1 = d + bh + (k + 1) by omega], by go_num, by go_num, by omega, by omega, HST, by rw [show d + bh + (k + 1) = d + k + bh + 1 by omega]; exact HQ6, HO6⟩
              case measure => simp [intOf]; omega
      · obtain rfl : k = nl := by omega
        have hk2 : ((k : Int) < (k : Int)) = False := by simp
        rcases own_form HT3.out.row with ⟨rfl, hl0, hc0⟩ | ⟨⟨b0, rfl⟩, hlc⟩
        · have HZ0 := Lib.hid (show ln = 0 ∧ c = 0 from ⟨by rw [← HLN.out]; exact hl0, hc0⟩)
          have hlc : ln ≤ c := by have := HZ0.out; omega
          clear hl0 hc0
          have HT4 := HT3.out
          have hbk := HT4.blk
          rw [HLN.out] at hbk
          obtain ⟨g0, g1, gl⟩ := hbk.facts2
          have hrow : RowC (wq) none (flat1 (L.drop d)) := by rw [List.drop_of_length_le (by have := HZ0.out; have := HLN.out; omega)]; exact RowC.nil _ _
          have hdl2 : (L.drop d).length = (ln - d) := by rw [List.length_drop, HLN.out]
          obtain ⟨A6, c6, w6, hr6, ho6, hg6, -⟩ := run_append_rowC (P := Try.prog) (t := 22) (e := 3) (c := (c - d)) (m := (ln - d)) 22 (by omega) Try.underlying22 int_info rfl HQ.out hrow (flat1_one _) (by rw [len_flat1, hdl2]) (by omega) (by unfold maxLen; omega) (by omega)
          rw [← flat1_append] at ho6
          have hgl2 : g ∉ (Value.slice A' (d + k) c').ownBlock.toList := fun h => by
            have := HQ.out.lt _ (by simpa using h)
            omega
          have hb6 := hg6.blk hbk hgl2
          have gf6 : w6.frozen? ⟨g, 1, none⟩ = false := hb6.frozen 1
          obtain ⟨g60, g61, gl6⟩ := hb6.facts2
          have hmd := HMG.out
          have hvl := HVL.out
          rw [← hvl] at hmd
          have hend := hmd.done HT4.srt
          rw [← HV.out, st_app2] at hend
          have hlen : (st keyI (L ++ M)).length = d + k + (ln - d) := by rw [st_len, List.length_append, HLN.out, HN.out]; omega
          have hsz6 := hg6.size
          have hB6 := HW.out
          have HFIN := Lib.hid (show BBI B (w6.setCell ⟨g, 1, none⟩ (.slice A6 (d + k + (ln - d)) c6)) g (st keyI (L ++ M)) A6 c6 from ⟨by
            rw [hlen]
            exact hb6.set_ 1 _, by
            rw [hlen, ← hend]
            exact ownsRow_only (only_setCell _ _ _) (own_base ho6 (by omega)) (fun x hx => by
              have := ho6.lt x hx
              simp
              omega), st_sorted _⟩)
          have HOF := Lib.hid (show Only [g] w (w6.setCell ⟨g, 1, none⟩ (.slice A6 (d + k + (ln - d)) c6)) from ((Only.refl [g] w).trans ((HO12.out.trans HO.out (by simp)).trans hg6 (fun y hy => .inr (by
            have := HQ.out.lt y (by simpa using hy)
            omega))) (by simp)).setCell (.inl (by simp)) _)
          have j1 : (d : Int) ≤ (ln : Int) := by omega
          have j0 : (0 : Int) ≤ (d : Int) := by omega
          clear hmd hvl hend hlen hsz6 hB6 hbk hb6 ho6 hg6 hgl2 hdl2 hrow HT4
          go_wp2_with (at_builtin; refine wpList_append_run hr6 rfl _ _ rfl rfl rfl rfl ?_; clear hr6)
          go_end0
          exact ⟨rfl, ⟨_, _, HFIN.out⟩, HOF.out⟩
        · rw [HLN.out] at hlc
          by_cases hce : c = d
          · obtain rfl : d = c := hce.symm
            obtain rfl : d = ln := by omega
            have HT4 := HT3.out
            have hbk := HT4.blk
            rw [HLN.out] at hbk
            obtain ⟨g0, g1, gl⟩ := hbk.facts2
            have hrow : RowC (wq) (some ⟨b0, 0, none⟩) (flat1 (L.drop d)) := by rw [List.drop_of_length_le (by have := HLN.out; omega)]; exact RowC.nil _ _
            have hdl2 : (L.drop d).length = 0 := by rw [List.length_drop, HLN.out]; omega
            obtain ⟨A6, c6, w6, hr6, ho6, hg6, -⟩ := run_append_rowC (P := Try.prog) (t := 22) (e := 3) (c := 0) (m := 0) 22 (by omega) Try.underlying22 int_info rfl HQ.out hrow (flat1_one _) (by rw [len_flat1, hdl2]) (by omega) (by unfold maxLen; omega) (by omega)
            rw [← flat1_append] at ho6
            have hgl2 : g ∉ (Value.slice A' (d + k) c').ownBlock.toList := fun h => by
              have := HQ.out.lt _ (by simpa using h)
              omega
            have hb6 := hg6.blk hbk hgl2
            have gf6 : w6.frozen? ⟨g, 1, none⟩ = false := hb6.frozen 1
            obtain ⟨g60, g61, gl6⟩ := hb6.facts2
            have hmd := HMG.out
            have hvl := HVL.out
            rw [← hvl] at hmd
            have hend := hmd.done HT4.srt
            rw [← HV.out, st_app2] at hend
            have hlen : (st keyI (L ++ M)).length = d + k + 0 := by rw [st_len, List.length_append, HLN.out, HN.out]; omega
            have hsz6 := hg6.size
            have hB6 := HW.out
            have HFIN := Lib.hid (show BBI B (w6.setCell ⟨g, 1, none⟩ (.slice A6 (d + k) c6)) g (st keyI (L ++ M)) A6 c6 from ⟨by
              rw [hlen]
              exact hb6.set_ 1 _, by
              rw [hlen, ← hend]
              exact ownsRow_only (only_setCell _ _ _) (own_base ho6 (by omega)) (fun x hx => by
                have := ho6.lt x hx
                simp
                omega), st_sorted _⟩)
            have HOF := Lib.hid (show Only [g] w (w6.setCell ⟨g, 1, none⟩ (.slice A6 (d + k) c6)) from ((Only.refl [g] w).trans ((HO12.out.trans HO.out (by simp)).trans hg6 (fun y hy => .inr (by
              have := HQ.out.lt y (by simpa using hy)
              omega))) (by simp)).setCell (.inl (by simp)) _)
            have j1 : (d : Int) ≤ (d : Int) := by omega
            have j0 : (0 : Int) ≤ (d : Int) := by omega
            clear hmd hvl hend hlen hsz6 hB6 hbk hb6 ho6 hg6 hgl2 hdl2 hrow HT4
            go_wp2_with (at_builtin; refine wpList_append_run hr6 rfl _ _ rfl rfl rfl rfl ?_; clear hr6)
            go_end0
            exact ⟨rfl, ⟨_, _, HFIN.out⟩, HOF.out⟩
          · skip
            have HT4 := HT3.out
            have hbk := HT4.blk
            rw [HLN.out] at hbk
            obtain ⟨g0, g1, gl⟩ := hbk.facts2
            have hrow := (own_rowC (by rw [len_flat1]) HT4.row).drop (d * 1)
            rw [Nat.zero_add, Nat.mul_one, flat1_drop] at hrow
            have hdl2 : (L.drop d).length = (ln - d) := by rw [List.length_drop, HLN.out]
            obtain ⟨A6, c6, w6, hr6, ho6, hg6, -⟩ := run_append_rowC (P := Try.prog) (t := 22) (e := 3) (c := (c - d)) (m := (ln - d)) 22 (by omega) Try.underlying22 int_info rfl HQ.out hrow (flat1_one _) (by rw [len_flat1, hdl2]) (by omega) (by unfold maxLen; omega) (by omega)
            rw [← flat1_append] at ho6
            have hgl2 : g ∉ (Value.slice A' (d + k) c').ownBlock.toList := fun h => by
              have := HQ.out.lt _ (by simpa using h)
              omega
            have hb6 := hg6.blk hbk hgl2
            have gf6 : w6.frozen? ⟨g, 1, none⟩ = false := hb6.frozen 1
            obtain ⟨g60, g61, gl6⟩ := hb6.facts2
            have hmd := HMG.out
            have hvl := HVL.out
            rw [← hvl] at hmd
            have hend := hmd.done HT4.srt
            rw [← HV.out, st_app2] at hend
            have hlen : (st keyI (L ++ M)).length = d + k + (ln - d) := by rw [st_len, List.length_append, HLN.out, HN.out]; omega
            have hsz6 := hg6.size
            have hB6 := HW.out
            have HFIN := Lib.hid (show BBI B (w6.setCell ⟨g, 1, none⟩ (.slice A6 (d + k + (ln - d)) c6)) g (st keyI (L ++ M)) A6 c6 from ⟨by
              rw [hlen]
              exact hb6.set_ 1 _, by
              rw [hlen, ← hend]
              exact ownsRow_only (only_setCell _ _ _) (own_base ho6 (by omega)) (fun x hx => by
                have := ho6.lt x hx
                simp
                omega), st_sorted _⟩)
            have HOF := Lib.hid (show Only [g] w (w6.setCell ⟨g, 1, none⟩ (.slice A6 (d + k + (ln - d)) c6)) from ((Only.refl [g] w).trans ((HO12.out.trans HO.out (by simp)).trans hg6 (fun y hy => .inr (by
              have := HQ.out.lt y (by simpa using hy)
              omega))) (by simp)).setCell (.inl (by simp)) _)
            have j1 : (d : Int) ≤ (ln : Int) := by omega
            have j0 : (0 : Int) ≤ (d : Int) := by omega
            clear hmd hvl hend hlen hsz6 hB6 hbk hb6 ho6 hg6 hgl2 hdl2 hrow HT4
            go_wp2_with (at_builtin; refine wpList_append_run hr6 rfl _ _ rfl rfl rfl rfl ?_; clear hr6)
            go_end0
            exact ⟨rfl, ⟨_, _, HFIN.out⟩, HOF.out⟩
/-- a bag in memory -/
structure BBJ (B : Nat) (w : World) (g : Nat) (L : List Ent) (A : Option Addr) (c : Nat) : Prop where
  blk : Blk w g 76 #[.func (.func 22) #[] #[], .slice A L.length c]
  row : w.ownsRow B 49 2 (.slice A L.length c) L.length (flat2 L)
  srt : Sorted keyJ L
theorem BBJ.keep {B : Nat} {w w' : World} {g : Nat} {L : List Ent} {A : Option Addr} {c : Nat} (h : BBJ B w g L A c) (o : Only [] w w') : BBJ B w' g L A c := ⟨o.blk h.blk (by simp), ownsRow_only o h.row (by simp), h.srt⟩
theorem BBJ.aside {B : Nat} {w w' : World} {g g' : Nat} {L : List Ent} {A : Option Addr} {c : Nat} {cs : Array Value} (h : BBJ B w g L A c) (o : Only [g'] w w') (hne : g ≠ g') (hb : Blk w g' 76 cs) : BBJ B w' g L A c :=
  ⟨o.blk h.blk (by simp; exact hne), ownsRow_only o h.row (fun x hx => by
    have := owns_ne h.row hb (by decide)
    intro hx2
    simp at hx2
    subst hx2
    exact this hx), h.srt⟩
theorem row_newJ (w : World) (x : Ent) : RowC (w.alloc (.cells #[.int .i64 x.1, .int .i64 x.2] 49)) (some ⟨w.heap.size, 0, none⟩) (flat2 [x]) := fun j u hj => by
  refine ⟨w.heap.size, 0, rfl, by simp, ?_⟩
  have h := Blk.new w 49 #[.int .i64 x.1, .int .i64 x.2]
  rw [h.cell]
  match j, hj with
  | 0, hj => simpa [flat2, cells2] using hj
  | 1, hj => simpa [flat2, cells2] using hj
set_option maxHeartbeats 4000000 in
theorem putJ {B : Nat} {w : World} {g : Nat} {L : List Ent} {A : Option Addr} {c : Nat} (hT : BBJ B w g L A c) {Al : Option Addr} {nl cl : Nat} {M : List Ent} (hM : RowC w Al (flat2 M)) (hn : M.length = nl) (hsum : L.length + nl ≤ 1000000) (hB : B ≤ w.heap.size) :
    Calls Try.prog 23 #[.pointer (some ⟨g, 0, none⟩), .slice Al nl cl] w fun e w' => e = .returned (.tuple #[]) ∧ (∃ A' c', BBJ B w' g (st keyJ (L ++ M)) A' c') ∧ Only [g] w w' := by
  by_cases h0 : nl = 0
  · subst h0
    have hm := List.length_eq_zero_iff.1 hn
    subst hm
    have HT := Lib.hid (show BBJ B w g (st keyJ (L ++ [])) A c by rw [List.append_nil, st_self hT.srt]; exact hT)
    clear hT hM hn hB
    go_enter Try.func23, Try.ntmps23
    go_wp2_with (fail)
    refine bodyPost_ret (results_none rfl _ _ _) rfl ?_
    exact ⟨rfl, ⟨A, c, HT.out⟩, Only.refl _ _⟩
  · have hcl := cloneJ (c := cl) hM hn (by omega)
    have h0i : ((nl : Int) == 0) = false := beq_eq_false_iff_ne.2 (by omega)
    have HT := Lib.hid hT
    have HN := Lib.hid hn
    have HW := Lib.hid hB
    clear hT hM hn hB
    go_enter Try.func23, Try.ntmps23
    go_wp2_with (fail)
    refine hcl.mono ?_
    clear hcl
    rintro e1 w1 ⟨A1, c1, rfl, how1, o1⟩
    obtain ⟨b1, rfl⟩ : ∃ b1, A1 = some ⟨b1, 0, none⟩ := by
      rcases own_form how1 with ⟨_, h, _⟩ | ⟨h, _⟩
      · omega
      · exact h
    have hb1 := how1.lt b1 rfl
    have hs := Lib.hid (sortJ M HN.out (by omega) how1)
    obtain ⟨g0, g1, gl⟩ := (o1.blk HT.out.blk (by simp)).facts2
    have O1 := Lib.hid o1
    have HB1 := Lib.hid hb1
    clear how1 o1 h0i hb1
    go_wp2_with (fail)
    refine hs.out.mono ?_
    clear hs g0 g1 gl
    rintro e2 w2 ⟨rfl, how2, o2⟩
    have o12 : Only [] w w2 := O1.out.trans o2 (fun x hx => .inr (by have := HB1.out; simp at hx; omega))
    obtain ⟨g0, g1, gl⟩ := (o12.blk HT.out.blk (by simp)).facts2
    have hT2 := HT.out.keep o12
    have h12 := o2.size
    have hs12 := o12.size
    have hb12 : b1 < w2.heap.size := by have := HB1.out; omega
    have hb13 : w.heap.size ≤ b1 := HB1.out.1
    have hg2 : g < w2.heap.size := gl
    have hgb : g < w.heap.size := HT.out.blk.lt
    obtain ⟨zs, hmk, hzo⟩ := make_own (P := Try.prog) 51 49 Try.underlying51 item_info (L.length + nl) (by omega) (by unfold maxLen; omega)
    obtain ⟨ln, hln⟩ : ∃ ln, L.length = ln := ⟨_, rfl⟩
    have hmk2 : ∀ W, (Instr.makeSlice 51 (.int .i64 0) (.int .i64 ((ln : Int) + (nl : Int)))).run Try.prog W = .ok (.slice (some ⟨W.heap.size, 0, none⟩) 0 (ln + nl)) (W.alloc (.cells zs 49)) := fun W => by
      have h := hmk W
      rw [hln] at h
      rw [show (ln : Int) + (nl : Int) = ((ln + nl : Nat) : Int) by omega]
      exact h
    have HZ := Lib.hid (hzo w2)
    rw [hln] at HZ g1 hsum
    have HO2 := Lib.hid (own_rowC (by rw [len_flat2, st_len, HN.out]) how2)
    have HOW2 := Lib.hid how2
    have HO12 := Lib.hid o12
    have HT2 := Lib.hid hT2
    have HLN := Lib.hid hln
    obtain ⟨V, hV⟩ : ∃ V, st keyJ M = V := ⟨_, rfl⟩
    rw [hV] at HO2 HOW2
    have HV := Lib.hid hV
    have HVL := Lib.hid (show V.length = nl by rw [← hV, st_len]; exact HN.out)
    clear how2 o2 o12 hT2 hmk hzo hln hV h12
    go_wp2_with (fail)
    clear hmk2 g0 g1 gl
    go_loopw [5, 6, 36] (fun vo vd vk wr => ∃ (O : List Ent) (d k c' : Nat) (A' : Option Addr), vo = .slice A' (d + k) c' ∧ vd = .int .i64 (d : Int) ∧ vk = .int .i64 (k : Int) ∧ d ≤ ln ∧ k ≤ nl ∧ Hid (Mrg keyJ L V O d k) ∧ Hid (wr.ownsRow w2.heap.size 49 2 (.slice A' (d + k) c') (d + k) (flat2 O)) ∧ Hid (Only [] w2 wr)) (fun _ _ vk _ => nl - (intOf vk).toNat)
    case atStart => exact ⟨[], 0, 0, ln + nl, _, rfl, rfl, rfl, Nat.zero_le _, Nat.zero_le _, Lib.hid (Mrg.start _ _), HZ, Lib.hid ((Only.refl [] _).alloc _)⟩
    case round =>
      obtain ⟨wq, rfl⟩ : ∃ wq : World, wq = wr := ⟨_, rfl⟩
      obtain ⟨O, d, k, c', A', rfl, rfl, rfl, hdl, hkn, HMG, HQ, HO⟩ := hrel
      have hsz := HO.out.size
      have HT3 := Lib.hid (HT2.out.keep HO.out)
      by_cases hlt : k < nl
      · obtain ⟨x, hx⟩ : ∃ x, V[k]? = some x := ⟨_, List.getElem?_eq_getElem (by have := HVL.out; omega)⟩
        obtain ⟨q, o', hA, hq, cx0⟩ := (HO2.out.only HO.out) (k * 2) _ (flat2_at _ _ _ hx).1
        cases hA
        obtain ⟨q, o', hA, -, cx1⟩ := (HO2.out.only HO.out) (k * 2 + 1) _ (flat2_at _ _ _ hx).2
        cases hA
        rw [Nat.zero_add] at cx0 cx1
        have HX := Lib.hid hx
        clear hx
        have hkl : (k : Int) < (nl : Int) := by omega
        rcases own_form HT3.out.row with ⟨rfl, hl0, hc0⟩ | ⟨⟨b0, rfl⟩, hlc⟩
        · have HZ0 := Lib.hid (show ln = 0 ∧ c = 0 from ⟨by rw [← HLN.out]; exact hl0, hc0⟩)
          have hlc : ln ≤ c := by have := HZ0.out; omega
          clear hl0 hc0
          have HT4 := Lib.hid (HT3.out.keep ((Only.refl [] wq).alloc (.cells #[.int .i64 x.1, .int .i64 x.2] 49)))
          have HG := Lib.hid (show (wq.alloc (.cells #[.int .i64 x.1, .int .i64 x.2] 49)).cell? ⟨g, 0, none⟩ = some (.func (.func 22) #[] #[]) ∧ (wq.alloc (.cells #[.int .i64 x.1, .int .i64 x.2] 49)).cell? ⟨g, 1, none⟩ = some (.slice (none) ln c) ∧ g < (wq.alloc (.cells #[.int .i64 x.1, .int .i64 x.2] 49)).heap.size from by
            have h := HT4.out.blk.facts2
            rw [HLN.out] at h
            exact h)
          have hrow : RowC (wq.alloc (.cells #[.int .i64 x.1, .int .i64 x.2] 49)) none (flat2 (L.drop d)) := by rw [List.drop_of_length_le (by have := HZ0.out; have := HLN.out; omega)]; exact RowC.nil _ _
          have hdl2 : (L.drop d).length = (ln - d) := by rw [List.length_drop, HLN.out]
          have HB := Lib.hid (fun (W : World) (o : Only [] (wq.alloc (.cells #[.int .i64 x.1, .int .i64 x.2] 49)) W) => behindJ (c := (c - d)) (x := x) (hrow.only o) hdl2 (by omega) (take_drop_sorted HT4.out.srt d).2.1)
          have HRW := Lib.hid hrow
          have HST := Lib.hid (HMG.out.step HT4.out.srt (by rw [← HV.out]; exact st_sorted _) HX.out)
          have hbl := behindB_le (key := keyJ) (L.drop d) (keyJ x)
          rw [hdl2] at hbl
          obtain ⟨bh, hbh⟩ : ∃ bh, behindB keyJ (L.drop d) (keyJ x) = bh := ⟨_, rfl⟩
          rw [hbh] at HB HST hbl
          have HBX := Lib.hid (Blk.new wq 49 #[.int .i64 x.1, .int .i64 x.2]).facts2
          clear hbh hrow hdl2
          go_wp2_with (fail)
          refine (wpIn_wide (n := 9)).1 ?_
          refine wpIn_region_relR 15 (Only []) (fr := ?frg1) (tl := ?tlg1) (fun iq v wv => match iq with
            | 0 => v = .int .i64 (d : Nat)
            | 1 => v = .pointer (some ⟨g, 0, none⟩)
            | 2 => v = .pointer (some ⟨g, 0, none⟩)
            | 3 => v = .pointer (some ⟨g, 1, none⟩)
            | 4 => v = .slice (none) ln c
            | 5 => v = .int .i64 (d : Nat)
            | 6 => v = .slice (none) (ln - d) (c - d)
            | 7 => v = .agg #[.int .i64 x.1, .int .i64 x.2]
            | 8 => v = .pointer (some ⟨g, 0, none⟩)
            | 9 => v = .pointer (some ⟨g, 0, none⟩)
            | 10 => v = .pointer (some ⟨g, 0, none⟩)
            | 11 => v = .func (.func 22) #[] #[]
            | 12 => v = .int .i64 (bh : Nat)
            | 13 => v = .int .i64 ((d : Int) + (bh : Int))
            | 14 => v = .int .i64 ((d : Int) + (bh : Int))
            | _ => True) (.inl rfl) (by kernel_rfl) (by kernel_rfl) (by kernel_rfl) (by kernel_rfl) (by kernel_rfl) (by kernel_rfl) (by decide) ?htlg1 ?hfrg1 (Only.refl _ _) (fun _ _ _ h k => h.trans k (fun _ hx => .inl hx)) ?stabg1 ?stepsg1 ?doneg1
          case htlg1 => simp only [List.drop_succ_cons, List.drop_zero]; rfl
          case hfrg1 => intro vals; simp only [putAll, dstAt, Act.put, List.getElem?_toArray, List.getElem?_cons_zero, List.getElem?_cons_succ, Option.bind_some, List.setIfInBounds_toArray, List.set_cons_zero, List.set_cons_succ]; rfl
          case stabg1 =>
            intro i v wa wb h
            try dsimp only
            split <;> first | exact id
          case stepsg1 =>
            refine ⟨?_, ?_, ?_, ?_, ?_, ?_, ?_, ?_, ?_, ?_, ?_, ?_, ?_, ?_, ?_, trivial⟩
            · intro vals wr hR hp K hK
              dsimp only at hK ⊢
              clear hp
              unfold RunsOp
              go_simp
              exact hK.out _ _ ⟨_, rfl, Only.refl _ _, rfl⟩
            · intro vals wr hR hp K hK
              dsimp only at hK ⊢
              clear hp
              unfold RunsOp
              go_simp
              exact hK.out _ _ ⟨_, rfl, Only.refl _ _, rfl⟩
            · intro vals wr hR hp K hK
              dsimp only at hK ⊢
              obtain ⟨p1, -⟩ := hp
              replace p1 := p1 rfl
              dsimp only at p1
              rw [p1] at hK ⊢
              clear p1
              unfold RunsOp
              go_simp
              exact hK.out _ _ ⟨_, rfl, Only.refl _ _, rfl⟩
            · intro vals wr hR hp K hK
              dsimp only at hK ⊢
              obtain ⟨p2, -⟩ := hp
              replace p2 := p2 rfl
              dsimp only at p2
              rw [p2] at hK ⊢
              clear p2
              unfold RunsOp
              go_simp
              exact hK.out _ _ ⟨_, rfl, Only.refl _ _, rfl⟩
            · intro vals wr hR hp K hK
              dsimp only at hK ⊢
              obtain ⟨p3, -⟩ := hp
              replace p3 := p3 rfl
              dsimp only at p3
              rw [p3] at hK ⊢
              clear p3
              unfold RunsOp
              have k0 := (hR.cell (p := ⟨g, 1, none⟩) HG.out.2.2 (by simp)).trans HG.out.2.1
              go_simp
              exact hK.out _ _ ⟨_, rfl, Only.refl _ _, rfl⟩
            · intro vals wr hR hp K hK
              dsimp only at hK ⊢
              clear hp
              unfold RunsOp
              go_simp
              exact hK.out _ _ ⟨_, rfl, Only.refl _ _, rfl⟩
            · intro vals wr hR hp K hK
              dsimp only at hK ⊢
              obtain ⟨p4, p5, -⟩ := hp
              replace p4 := p4 rfl
              replace p5 := p5 rfl
              dsimp only at p4 p5
              rw [p4, p5] at hK ⊢
              clear p4 p5
              unfold RunsOp
              have i1 : (0 : Int) ≤ (d : Int) := by omega
              have i2 : (d : Int) ≤ (ln : Int) := by omega
              go_simp
              exact hK.out _ _ ⟨_, rfl, Only.refl _ _, rfl⟩
            · intro vals wr hR hp K hK
              dsimp only at hK ⊢
              clear hp
              unfold RunsOp
              have k0 := (hR.cell (p := ⟨wq.heap.size, 0, none⟩) HBX.out.2.2 (by simp)).trans HBX.out.1
              have k1 := (hR.cell (p := ⟨wq.heap.size, 1, none⟩) HBX.out.2.2 (by simp)).trans HBX.out.2.1
              go_simp
              exact hK.out _ _ ⟨_, rfl, Only.refl _ _, rfl⟩
            · intro vals wr hR hp K hK
              dsimp only at hK ⊢
              clear hp
              unfold RunsOp
              go_simp
              exact hK.out _ _ ⟨_, rfl, Only.refl _ _, rfl⟩
            · intro vals wr hR hp K hK
              dsimp only at hK ⊢
              obtain ⟨p8, -⟩ := hp
              replace p8 := p8 rfl
              dsimp only at p8
              rw [p8] at hK ⊢
              clear p8
              unfold RunsOp
              go_simp
              exact hK.out _ _ ⟨_, rfl, Only.refl _ _, rfl⟩
            · intro vals wr hR hp K hK
              dsimp only at hK ⊢
              obtain ⟨p9, -⟩ := hp
              replace p9 := p9 rfl
              dsimp only at p9
              rw [p9] at hK ⊢
              clear p9
              unfold RunsOp
              go_simp
              exact hK.out _ _ ⟨_, rfl, Only.refl _ _, rfl⟩
            · intro vals wr hR hp K hK
              dsimp only at hK ⊢
              obtain ⟨p10, -⟩ := hp
              replace p10 := p10 rfl
              dsimp only at p10
              rw [p10] at hK ⊢
              clear p10
              unfold RunsOp
              have k0 := (hR.cell (p := ⟨g, 0, none⟩) HG.out.2.2 (by simp)).trans HG.out.1
              go_simp
              exact hK.out _ _ ⟨_, rfl, Only.refl _ _, rfl⟩
            · intro vals wr hR hp K hK
              dsimp only at hK ⊢
              obtain ⟨p6, p7, p11, -⟩ := hp
              replace p6 := p6 rfl
              replace p7 := p7 rfl
              replace p11 := p11 rfl
              dsimp only at p6 p7 p11
              rw [p6, p7, p11] at hK ⊢
              clear p6 p7 p11
              unfold RunsOp
              go_simp
              refine (HB.out _ ((Only.refl [] _).drew.trans hR (by simp))).mono ?_
              rintro e' w2 ⟨rfl, o2⟩
              exact hK.out _ _ ⟨_, rfl, o2, rfl⟩
            · intro vals wr hR hp K hK
              dsimp only at hK ⊢
              obtain ⟨p0, p12, -⟩ := hp
              replace p0 := p0 rfl
              replace p12 := p12 rfl
              dsimp only at p0 p12
              rw [p0, p12] at hK ⊢
              clear p0 p12
              unfold RunsOp
              have hwr : IntKind.i64.wrap ((d : Int) + (bh : Int)) = (d : Int) + (bh : Int) := IntWalk.i64_in _ (by omega)
              go_simp
              exact hK.out _ _ ⟨_, rfl, Only.refl _ _, rfl⟩
            · intro vals wr hR hp K hK
              dsimp only at hK ⊢
              obtain ⟨p13, -, -, -, -, -, -, -, -, -, -, -, -, -, -, -, -⟩ := hp
              replace p13 := p13 rfl
              dsimp only at p13
              rw [p13] at hK ⊢
              clear p13
              unfold RunsOp
              go_simp
              exact hK.out _ _ ⟨_, rfl, Only.refl _ _, rfl⟩
          case doneg1 =>
            intro vals wd hR hF
            have f0 : vals 0 = .int .i64 (d : Nat) := hF 0 (by decide)
            have f1 : vals 1 = .pointer (some ⟨g, 0, none⟩) := hF 1 (by decide)
            have f2 : vals 2 = .pointer (some ⟨g, 0, none⟩) := hF 2 (by decide)
            have f3 : vals 3 = .pointer (some ⟨g, 1, none⟩) := hF 3 (by decide)
            have f4 : vals 4 = .slice (none) ln c := hF 4 (by decide)
            have f5 : vals 5 = .int .i64 (d : Nat) := hF 5 (by decide)
            have f6 : vals 6 = .slice (none) (ln - d) (c - d) := hF 6 (by decide)
            have f7 : vals 7 = .agg #[.int .i64 x.1, .int .i64 x.2] := hF 7 (by decide)
            have f8 : vals 8 = .pointer (some ⟨g, 0, none⟩) := hF 8 (by decide)
            have f9 : vals 9 = .pointer (some ⟨g, 0, none⟩) := hF 9 (by decide)
            have f10 : vals 10 = .pointer (some ⟨g, 0, none⟩) := hF 10 (by decide)
            have f11 : vals 11 = .func (.func 22) #[] #[] := hF 11 (by decide)
            have f12 : (vals 12) = .int .i64 (bh : Nat) := hF 12 (by decide)
            have f13 : vals 13 = .int .i64 ((d : Int) + (bh : Int)) := hF 13 (by decide)
            have f14 : vals 14 = .int .i64 ((d : Int) + (bh : Int)) := hF 14 (by decide)
            rw [f0, f1, f2, f3, f4, f5, f6, f7, f8, f9, f10, f11, f13, f14]
            clear f0 f1 f2 f3 f4 f5 f6 f7 f8 f9 f10 f11 f13 f14
            rw [f12]
            clear f12
            have HOd := Lib.hid ((Only.refl [] (wq.alloc (.cells #[.int .i64 x.1, .int .i64 x.2] 49))).drew.trans hR (by simp))
            clear hR hF
            have hQ8 := ownsRow_only HOd.out (ownsRow_only (((Only.refl [] wq).alloc (.cells #[.int .i64 x.1, .int .i64 x.2] 49))) HQ.out (by simp)) (by simp)
            have hU : RowC wd (none) (flat2 ((L.drop d).take bh)) := by
              have h := (HRW.out.only HOd.out).take (bh * 2)
              rw [flat2_take] at h
              exact h
            have hsz8 := HOd.out.size
            have hsz7 : wq.heap.size ≤ (wq.alloc (.cells #[.int .i64 x.1, .int .i64 x.2] 49)).heap.size := (show Only [] wq (wq.alloc (.cells #[.int .i64 x.1, .int .i64 x.2] 49)) from ((Only.refl [] wq).alloc (.cells #[.int .i64 x.1, .int .i64 x.2] 49))).size
            obtain ⟨A5, c5, w5, hr5, ho5, hg5, -⟩ := run_append_rowC (P := Try.prog) (t := 51) (e := 49) (c := (c - d)) (m := bh) 51 (by omega) Try.underlying51 item_info rfl hQ8 hU (flat2_one _) (by rw [len_flat2, List.length_take, List.length_drop, HLN.out]; congr 1; omega) (by omega) (by unfold maxLen; omega) (by omega)
            have hsz5 := hg5.size
            obtain ⟨A6, c6, w6, hr6, ho6, hg6, -⟩ := run_append_rowC (P := Try.prog) (t := 51) (e := 49) (c := 1) (m := 1) 51 (by omega) Try.underlying51 item_info rfl (ho5.alloc (.cells #[.int .i64 x.1, .int .i64 x.2] 49)) (row_newJ w5 x) (flat2_one _) (by rw [len_flat2]; rfl) (by simp; omega) (by unfold maxLen; omega) (by omega)
            have HQ6 := Lib.hid (show w6.ownsRow w2.heap.size 49 2 (.slice A6 (d + k + bh + 1) c6) (d + k + bh + 1) (flat2 ((O ++ (L.drop d).take bh) ++ [x])) by rw [flat2_append, flat2_append]; exact ho6)
            have o8 : Only [] w2 wd := (HO.out.trans (((Only.refl [] wq).alloc (.cells #[.int .i64 x.1, .int .i64 x.2] 49))) (by simp)).trans HOd.out (by simp)
            have o5 : Only [] w2 w5 := o8.trans hg5 (fun y hy => .inr (by
              have := hQ8.lt y (by simpa using hy)
              omega))
            have HO6 := Lib.hid (show Only [] w2 w6 from (o5.alloc _).trans hg6 (fun y hy => .inr (by
              have := ho5.lt y (by simpa using hy)
              omega)))
            have g1 : wd.cell? ⟨g, 1, none⟩ = some (.slice (none) ln c) := (HOd.out.cell (p := ⟨g, 1, none⟩) HG.out.2.2 (by simp)).trans HG.out.2.1
            have gl : g < wd.heap.size := by have := HG.out.2.2; omega
            have j0 : (0 : Int) ≤ (d : Int) := by omega
            have j1 : (d : Int) ≤ (d : Int) + (bh : Int) := by omega
            have j2 : (d : Int) + (bh : Int) ≤ (c : Int) := by have := HZ0.out; omega
            have j3 : ((d : Int) + (bh : Int)).toNat - d = bh := by omega
            have hnb : wq.heap.size ∉ (Value.slice A' (d + k) c').ownBlock.toList := fun h => by
              have := HQ.out.lt _ (by simpa using h)
              omega
            have hbl : wq.heap.size < wd.heap.size := by have := HBX.out.2.2; omega
            have x0 : w5.cell? ⟨wq.heap.size, 0, none⟩ = some (.int .i64 x.1) := (hg5.cell (p := ⟨wq.heap.size, 0, none⟩) hbl hnb).trans ((HOd.out.cell (p := ⟨wq.heap.size, 0, none⟩) HBX.out.2.2 (by simp)).trans HBX.out.1)
            have x1 : w5.cell? ⟨wq.heap.size, 1, none⟩ = some (.int .i64 x.2) := (hg5.cell (p := ⟨wq.heap.size, 1, none⟩) hbl hnb).trans ((HOd.out.cell (p := ⟨wq.heap.size, 1, none⟩) HBX.out.2.2 (by simp)).trans HBX.out.2.1)
            clear hnb
            clear hQ8 hU ho5 ho6 hg5 hg6 o8 o5 HB HRW HG HT4
            gi_wp2_with (fail)
            go_wp2_with (at_builtin; first | (refine wpList_append_run hr5 rfl _ _ rfl rfl rfl rfl ?_; clear hr5) | (refine wpList_append_run hr6 rfl _ _ rfl rfl rfl rfl ?_; clear hr6))
            go_roundw
            case rel => exact ⟨_, d + bh, k + 1, c6, A6, by rw [show d + k + bh + 1 = d + bh + (k + 1) by omega], by go_num, by go_num, by omega, by omega, HST, by rw [show d + bh + (k + 1) = d + k + bh + 1 by omega]; exact HQ6, HO6⟩
            case measure => simp [intOf]; omega
        · rw [HLN.out] at hlc
          by_cases hce : c = d
          · obtain rfl : d = c := hce.symm
            obtain rfl : d = ln := by omega
            have HT4 := Lib.hid (HT3.out.keep ((Only.refl [] wq).alloc (.cells #[.int .i64 x.1, .int .i64 x.2] 49)))
            have HG := Lib.hid (show (wq.alloc (.cells #[.int .i64 x.1, .int .i64 x.2] 49)).cell? ⟨g, 0, none⟩ = some (.func (.func 22) #[] #[]) ∧ (wq.alloc (.cells #[.int .i64 x.1, .int .i64 x.2] 49)).cell? ⟨g, 1, none⟩ = some (.slice (some ⟨b0, 0, none⟩) d d) ∧ g < (wq.alloc (.cells #[.int .i64 x.1, .int .i64 x.2] 49)).heap.size from by
              have h := HT4.out.blk.facts2
              rw [HLN.out] at h
              exact h)
            have hrow : RowC (wq.alloc (.cells #[.int .i64 x.1, .int .i64 x.2] 49)) (some ⟨b0, 0, none⟩) (flat2 (L.drop d)) := by rw [List.drop_of_length_le (by have := HLN.out; omega)]; exact RowC.nil _ _
            have hdl2 : (L.drop d).length = 0 := by rw [List.length_drop, HLN.out]; omega
            have HB := Lib.hid (fun (W : World) (o : Only [] (wq.alloc (.cells #[.int .i64 x.1, .int .i64 x.2] 49)) W) => behindJ (c := 0) (x := x) (hrow.only o) hdl2 (by omega) (take_drop_sorted HT4.out.srt d).2.1)
            have HRW := Lib.hid hrow
            have HST := Lib.hid (HMG.out.step HT4.out.srt (by rw [← HV.out]; exact st_sorted _) HX.out)
            have hbl := behindB_le (key := keyJ) (L.drop d) (keyJ x)
            rw [hdl2] at hbl
            obtain ⟨bh, hbh⟩ : ∃ bh, behindB keyJ (L.drop d) (keyJ x) = bh := ⟨_, rfl⟩
            rw [hbh] at HB HST hbl
            have HBX := Lib.hid (Blk.new wq 49 #[.int .i64 x.1, .int .i64 x.2]).facts2
            clear hbh hrow hdl2
            go_wp2_with (fail)
            refine (wpIn_wide (n := 9)).1 ?_
            refine wpIn_region_relR 15 (Only []) (fr := ?frg2) (tl := ?tlg2) (fun iq v wv => match iq with
              | 0 => v = .int .i64 (d : Nat)
              | 1 => v = .pointer (some ⟨g, 0, none⟩)
              | 2 => v = .pointer (some ⟨g, 0, none⟩)
              | 3 => v = .pointer (some ⟨g, 1, none⟩)
              | 4 => v = .slice (some ⟨b0, 0, none⟩) d d
              | 5 => v = .int .i64 (d : Nat)
              | 6 => v = .slice (some ⟨b0, 0, none⟩) 0 0
              | 7 => v = .agg #[.int .i64 x.1, .int .i64 x.2]
              | 8 => v = .pointer (some ⟨g, 0, none⟩)
              | 9 => v = .pointer (some ⟨g, 0, none⟩)
              | 10 => v = .pointer (some ⟨g, 0, none⟩)
              | 11 => v = .func (.func 22) #[] #[]
              | 12 => v = .int .i64 (bh : Nat)
              | 13 => v = .int .i64 ((d : Int) + (bh : Int))
              | 14 => v = .int .i64 ((d : Int) + (bh : Int))
              | _ => True) (.inl rfl) (by kernel_rfl) (by kernel_rfl) (by kernel_rfl) (by kernel_rfl) (by kernel_rfl) (by kernel_rfl) (by decide) ?htlg2 ?hfrg2 (Only.refl _ _) (fun _ _ _ h k => h.trans k (fun _ hx => .inl hx)) ?stabg2 ?stepsg2 ?doneg2
            case htlg2 => simp only [List.drop_succ_cons, List.drop_zero]; rfl
            case hfrg2 => intro vals; simp only [putAll, dstAt, Act.put, List.getElem?_toArray, List.getElem?_cons_zero, List.getElem?_cons_succ, Option.bind_some, List.setIfInBounds_toArray, List.set_cons_zero, List.set_cons_succ]; rfl
            case stabg2 =>
              intro i v wa wb h
              try dsimp only
              split <;> first | exact id
            case stepsg2 =>
              refine ⟨?_, ?_, ?_, ?_, ?_, ?_, ?_, ?_, ?_, ?_, ?_, ?_, ?_, ?_, ?_, trivial⟩
              · intro vals wr hR hp K hK
                dsimp only at hK ⊢
                clear hp
                unfold RunsOp
                go_simp
                exact hK.out _ _ ⟨_, rfl, Only.refl _ _, rfl⟩
              · intro vals wr hR hp K hK
                dsimp only at hK ⊢
                clear hp
                unfold RunsOp
                go_simp
                exact hK.out _ _ ⟨_, rfl, Only.refl _ _, rfl⟩
              · intro vals wr hR hp K hK
                dsimp only at hK ⊢
                obtain ⟨p1, -⟩ := hp
                replace p1 := p1 rfl
                dsimp only at p1
                rw [p1] at hK ⊢
                clear p1
                unfold RunsOp
                go_simp
                exact hK.out _ _ ⟨_, rfl, Only.refl _ _, rfl⟩
              · intro vals wr hR hp K hK
                dsimp only at hK ⊢
                obtain ⟨p2, -⟩ := hp
                replace p2 := p2 rfl
                dsimp only at p2
                rw [p2] at hK ⊢
                clear p2
                unfold RunsOp
                go_simp
                exact hK.out _ _ ⟨_, rfl, Only.refl _ _, rfl⟩
              · intro vals wr hR hp K hK
                dsimp only at hK ⊢
                obtain ⟨p3, -⟩ := hp
                replace p3 := p3 rfl
                dsimp only at p3
                rw [p3] at hK ⊢
                clear p3
                unfold RunsOp
                have k0 := (hR.cell (p := ⟨g, 1, none⟩) HG.out.2.2 (by simp)).trans HG.out.2.1
                go_simp
                exact hK.out _ _ ⟨_, rfl, Only.refl _ _, rfl⟩
              · intro vals wr hR hp K hK
                dsimp only at hK ⊢
                clear hp
                unfold RunsOp
                go_simp
                exact hK.out _ _ ⟨_, rfl, Only.refl _ _, rfl⟩
              · intro vals wr hR hp K hK
                dsimp only at hK ⊢
                obtain ⟨p4, p5, -⟩ := hp
                replace p4 := p4 rfl
                replace p5 := p5 rfl
                dsimp only at p4 p5
                rw [p4, p5] at hK ⊢
                clear p4 p5
                unfold RunsOp
                have i1 : (0 : Int) ≤ (d : Int) := by omega
                have i2 : (d : Int) ≤ (d : Int) := by omega
                go_simp
                exact hK.out _ _ ⟨_, rfl, Only.refl _ _, rfl⟩
              · intro vals wr hR hp K hK
                dsimp only at hK ⊢
                clear hp
                unfold RunsOp
                have k0 := (hR.cell (p := ⟨wq.heap.size, 0, none⟩) HBX.out.2.2 (by simp)).trans HBX.out.1
                have k1 := (hR.cell (p := ⟨wq.heap.size, 1, none⟩) HBX.out.2.2 (by simp)).trans HBX.out.2.1
                go_simp
                exact hK.out _ _ ⟨_, rfl, Only.refl _ _, rfl⟩
              · intro vals wr hR hp K hK
                dsimp only at hK ⊢
                clear hp
                unfold RunsOp
                go_simp
                exact hK.out _ _ ⟨_, rfl, Only.refl _ _, rfl⟩
              · intro vals wr hR hp K hK
                dsimp only at hK ⊢
                obtain ⟨p8, -⟩ := hp
                replace p8 := p8 rfl
                dsimp only at p8
                rw [p8] at hK ⊢
                clear p8
                unfold RunsOp
                go_simp
                exact hK.out _ _ ⟨_, rfl, Only.refl _ _, rfl⟩
              · intro vals wr hR hp K hK
                dsimp only at hK ⊢
                obtain ⟨p9, -⟩ := hp
                replace p9 := p9 rfl
                dsimp only at p9
                rw [p9] at hK ⊢
                clear p9
                unfold RunsOp
                go_simp
                exact hK.out _ _ ⟨_, rfl, Only.refl _ _, rfl⟩
              · intro vals wr hR hp K hK
                dsimp only at hK ⊢
                obtain ⟨p10, -⟩ := hp
                replace p10 := p10 rfl
                dsimp only at p10
                rw [p10] at hK ⊢
                clear p10
                unfold RunsOp
                have k0 := (hR.cell (p := ⟨g, 0, none⟩) HG.out.2.2 (by simp)).trans HG.out.1
                go_simp
                exact hK.out _ _ ⟨_, rfl, Only.refl _ _, rfl⟩
              · intro vals wr hR hp K hK
                dsimp only at hK ⊢
                obtain ⟨p6, p7, p11, -⟩ := hp
                replace p6 := p6 rfl
                replace p7 := p7 rfl
                replace p11 := p11 rfl
                dsimp only at p6 p7 p11
                rw [p6, p7, p11] at hK ⊢
                clear p6 p7 p11
                unfold RunsOp
                go_simp
                refine (HB.out _ ((Only.refl [] _).drew.trans hR (by simp))).mono ?_
                rintro e' w2 ⟨rfl, o2⟩
                exact hK.out _ _ ⟨_, rfl, o2, rfl⟩
              · intro vals wr hR hp K hK
                dsimp only at hK ⊢
                obtain ⟨p0, p12, -⟩ := hp
                replace p0 := p0 rfl
                replace p12 := p12 rfl
                dsimp only at p0 p12
                rw [p0, p12] at hK ⊢
                clear p0 p12
                unfold RunsOp
                have hwr : IntKind.i64.wrap ((d : Int) + (bh : Int)) = (d : Int) + (bh : Int) := IntWalk.i64_in _ (by omega)
                go_simp
                exact hK.out _ _ ⟨_, rfl, Only.refl _ _, rfl⟩
              · intro vals wr hR hp K hK
                dsimp only at hK ⊢
                obtain ⟨p13, -, -, -, -, -, -, -, -, -, -, -, -, -, -, -, -⟩ := hp
                replace p13 := p13 rfl
                dsimp only at p13
                rw [p13] at hK ⊢
                clear p13
                unfold RunsOp
                go_simp
                exact hK.out _ _ ⟨_, rfl, Only.refl _ _, rfl⟩
            case doneg2 =>
              intro vals wd hR hF
              have f0 : vals 0 = .int .i64 (d : Nat) := hF 0 (by decide)
              have f1 : vals 1 = .pointer (some ⟨g, 0, none⟩) := hF 1 (by decide)
              have f2 : vals 2 = .pointer (some ⟨g, 0, none⟩) := hF 2 (by decide)
              have f3 : vals 3 = .pointer (some ⟨g, 1, none⟩) := hF 3 (by decide)
              have f4 : vals 4 = .slice (some ⟨b0, 0, none⟩) d d := hF 4 (by decide)
              have f5 : vals 5 = .int .i64 (d : Nat) := hF 5 (by decide)
              have f6 : vals 6 = .slice (some ⟨b0, 0, none⟩) 0 0 := hF 6 (by decide)
              have f7 : vals 7 = .agg #[.int .i64 x.1, .int .i64 x.2] := hF 7 (by decide)
              have f8 : vals 8 = .pointer (some ⟨g, 0, none⟩) := hF 8 (by decide)
              have f9 : vals 9 = .pointer (some ⟨g, 0, none⟩) := hF 9 (by decide)
              have f10 : vals 10 = .pointer (some ⟨g, 0, none⟩) := hF 10 (by decide)
              have f11 : vals 11 = .func (.func 22) #[] #[] := hF 11 (by decide)
              have f12 : (vals 12) = .int .i64 (bh : Nat) := hF 12 (by decide)
              have f13 : vals 13 = .int .i64 ((d : Int) + (bh : Int)) := hF 13 (by decide)
              have f14 : vals 14 = .int .i64 ((d : Int) + (bh : Int)) := hF 14 (by decide)
              rw [f0, f1, f2, f3, f4, f5, f6, f7, f8, f9, f10, f11, f13, f14]
              clear f0 f1 f2 f3 f4 f5 f6 f7 f8 f9 f10 f11 f13 f14
              rw [f12]
              clear f12
              have HOd := Lib.hid ((Only.refl [] (wq.alloc (.cells #[.int .i64 x.1, .int .i64 x.2] 49))).drew.trans hR (by simp))
              clear hR hF
              have hQ8 := ownsRow_only HOd.out (ownsRow_only (((Only.refl [] wq).alloc (.cells #[.int .i64 x.1, .int .i64 x.2] 49))) HQ.out (by simp)) (by simp)
              have hU : RowC wd (some ⟨b0, 0, none⟩) (flat2 ((L.drop d).take bh)) := by
                have h := (HRW.out.only HOd.out).take (bh * 2)
                rw [flat2_take] at h
                exact h
              have hsz8 := HOd.out.size
              have hsz7 : wq.heap.size ≤ (wq.alloc (.cells #[.int .i64 x.1, .int .i64 x.2] 49)).heap.size := (show Only [] wq (wq.alloc (.cells #[.int .i64 x.1, .int .i64 x.2] 49)) from ((Only.refl [] wq).alloc (.cells #[.int .i64 x.1, .int .i64 x.2] 49))).size
              obtain ⟨A5, c5, w5, hr5, ho5, hg5, -⟩ := run_append_rowC (P := Try.prog) (t := 51) (e := 49) (c := 0) (m := bh) 51 (by omega) Try.underlying51 item_info rfl hQ8 hU (flat2_one _) (by rw [len_flat2, List.length_take, List.length_drop, HLN.out]; congr 1; omega) (by omega) (by unfold maxLen; omega) (by omega)
              have hsz5 := hg5.size
              obtain ⟨A6, c6, w6, hr6, ho6, hg6, -⟩ := run_append_rowC (P := Try.prog) (t := 51) (e := 49) (c := 1) (m := 1) 51 (by omega) Try.underlying51 item_info rfl (ho5.alloc (.cells #[.int .i64 x.1, .int .i64 x.2] 49)) (row_newJ w5 x) (flat2_one _) (by rw [len_flat2]; rfl) (by simp; omega) (by unfold maxLen; omega) (by omega)
              have HQ6 := Lib.hid (show w6.ownsRow w2.heap.size 49 2 (.slice A6 (d + k + bh + 1) c6) (d + k + bh + 1) (flat2 ((O ++ (L.drop d).take bh) ++ [x])) by rw [flat2_append, flat2_append]; exact ho6)
              have o8 : Only [] w2 wd := (HO.out.trans (((Only.refl [] wq).alloc (.cells #[.int .i64 x.1, .int .i64 x.2] 49))) (by simp)).trans HOd.out (by simp)
              have o5 : Only [] w2 w5 := o8.trans hg5 (fun y hy => .inr (by
                have := hQ8.lt y (by simpa using hy)
                omega))
              have HO6 := Lib.hid (show Only [] w2 w6 from (o5.alloc _).trans hg6 (fun y hy => .inr (by
                have := ho5.lt y (by simpa using hy)
                omega)))
              have g1 : wd.cell? ⟨g, 1, none⟩ = some (.slice (some ⟨b0, 0, none⟩) d d) := (HOd.out.cell (p := ⟨g, 1, none⟩) HG.out.2.2 (by simp)).trans HG.out.2.1
              have gl : g < wd.heap.size := by have := HG.out.2.2; omega
              have j0 : (0 : Int) ≤ (d : Int) := by omega
              have j1 : (d : Int) ≤ (d : Int) + (bh : Int) := by omega
              have j2 : (d : Int) + (bh : Int) ≤ (d : Int) := by omega
              have j3 : ((d : Int) + (bh : Int)).toNat - d = bh := by omega
              have hnb : wq.heap.size ∉ (Value.slice A' (d + k) c').ownBlock.toList := fun h => by
                have := HQ.out.lt _ (by simpa using h)
                omega
              have hbl : wq.heap.size < wd.heap.size := by have := HBX.out.2.2; omega
              have x0 : w5.cell? ⟨wq.heap.size, 0, none⟩ = some (.int .i64 x.1) := (hg5.cell (p := ⟨wq.heap.size, 0, none⟩) hbl hnb).trans ((HOd.out.cell (p := ⟨wq.heap.size, 0, none⟩) HBX.out.2.2 (by simp)).trans HBX.out.1)
              have x1 : w5.cell? ⟨wq.heap.size, 1, none⟩ = some (.int .i64 x.2) := (hg5.cell (p := ⟨wq.heap.size, 1, none⟩) hbl hnb).trans ((HOd.out.cell (p := ⟨wq.heap.size, 1, none⟩) HBX.out.2.2 (by simp)).trans HBX.out.2.1)
              clear hnb
              clear hQ8 hU ho5 ho6 hg5 hg6 o8 o5 HB HRW HG HT4
              gi_wp2_with (fail)
              go_wp2_with (at_builtin; first | (refine wpList_append_run hr5 rfl _ _ rfl rfl rfl rfl ?_; clear hr5) | (refine wpList_append_run hr6 rfl _ _ rfl rfl rfl rfl ?_; clear hr6))
              go_roundw
              case rel => exact ⟨_, d + bh, k + 1, c6, A6, by rw [show d + k + bh + 1 = d + bh + (k + 1) by omega], by go_num, by go_num, by omega, by omega, HST, by rw [show d + bh + (k + 1) = d + k + bh + 1 by omega]; exact HQ6, HO6⟩
              case measure => simp [intOf]; omega
          · skip
            have HT4 := Lib.hid (HT3.out.keep ((Only.refl [] wq).alloc (.cells #[.int .i64 x.1, .int .i64 x.2] 49)))
            have HG := Lib.hid (show (wq.alloc (.cells #[.int .i64 x.1, .int .i64 x.2] 49)).cell? ⟨g, 0, none⟩ = some (.func (.func 22) #[] #[]) ∧ (wq.alloc (.cells #[.int .i64 x.1, .int .i64 x.2] 49)).cell? ⟨g, 1, none⟩ = some (.slice (some ⟨b0, 0, none⟩) ln c) ∧ g < (wq.alloc (.cells #[.int .i64 x.1, .int .i64 x.2] 49)).heap.size from by
              have h := HT4.out.blk.facts2
              rw [HLN.out] at h
              exact h)
            have hrow := (own_rowC (by rw [len_flat2]) HT4.out.row).drop (d * 2)
            rw [Nat.zero_add, flat2_drop] at hrow
            have hdl2 : (L.drop d).length = (ln - d) := by rw [List.length_drop, HLN.out]
            have HB := Lib.hid (fun (W : World) (o : Only [] (wq.alloc (.cells #[.int .i64 x.1, .int .i64 x.2] 49)) W) => behindJ (c := (c - d)) (x := x) (hrow.only o) hdl2 (by omega) (take_drop_sorted HT4.out.srt d).2.1)
            have HRW := Lib.hid hrow
            have HST := Lib.hid (HMG.out.step HT4.out.srt (by rw [← HV.out]; exact st_sorted _) HX.out)
            have hbl := behindB_le (key := keyJ) (L.drop d) (keyJ x)
            rw [hdl2] at hbl
            obtain ⟨bh, hbh⟩ : ∃ bh, behindB keyJ (L.drop d) (keyJ x) = bh := ⟨_, rfl⟩
            rw [hbh] at HB HST hbl
            have HBX := Lib.hid (Blk.new wq 49 #[.int .i64 x.1, .int .i64 x.2]).facts2
            clear hbh hrow hdl2
            go_wp2_with (fail)
            refine (wpIn_wide (n := 9)).1 ?_
            refine wpIn_region_relR 15 (Only []) (fr := ?frg3) (tl := ?tlg3) (fun iq v wv => match iq with
              | 0 => v = .int .i64 (d : Nat)
              | 1 => v = .pointer (some ⟨g, 0, none⟩)
              | 2 => v = .pointer (some ⟨g, 0, none⟩)
              | 3 => v = .pointer (some ⟨g, 1, none⟩)
              | 4 => v = .slice (some ⟨b0, 0, none⟩) ln c
              | 5 => v = .int .i64 (d : Nat)
              | 6 => v = .slice (some ⟨b0, d * 2, none⟩) (ln - d) (c - d)
              | 7 => v = .agg #[.int .i64 x.1, .int .i64 x.2]
              | 8 => v = .pointer (some ⟨g, 0, none⟩)
              | 9 => v = .pointer (some ⟨g, 0, none⟩)
              | 10 => v = .pointer (some ⟨g, 0, none⟩)
              | 11 => v = .func (.func 22) #[] #[]
              | 12 => v = .int .i64 (bh : Nat)
              | 13 => v = .int .i64 ((d : Int) + (bh : Int))
              | 14 => v = .int .i64 ((d : Int) + (bh : Int))
              | _ => True) (.inl rfl) (by kernel_rfl) (by kernel_rfl) (by kernel_rfl) (by kernel_rfl) (by kernel_rfl) (by kernel_rfl) (by decide) ?htlg3 ?hfrg3 (Only.refl _ _) (fun _ _ _ h k => h.trans k (fun _ hx => .inl hx)) ?stabg3 ?stepsg3 ?doneg3
            case htlg3 => simp only [List.drop_succ_cons, List.drop_zero]; rfl
            case hfrg3 => intro vals; simp only [putAll, dstAt, Act.put, List.getElem?_toArray, List.getElem?_cons_zero, List.getElem?_cons_succ, Option.bind_some, List.setIfInBounds_toArray, List.set_cons_zero, List.set_cons_succ]; rfl
            case stabg3 =>
              intro i v wa wb h
              try dsimp only
              split <;> first | exact id
            case stepsg3 =>
              refine ⟨?_, ?_, ?_, ?_, ?_, ?_, ?_, ?_, ?_, ?_, ?_, ?_, ?_, ?_, ?_, trivial⟩
              · intro vals wr hR hp K hK
                dsimp only at hK ⊢
                clear hp
                unfold RunsOp
                go_simp
                exact hK.out _ _ ⟨_, rfl, Only.refl _ _, rfl⟩
              · intro vals wr hR hp K hK
                dsimp only at hK ⊢
                clear hp
                unfold RunsOp
                go_simp
                exact hK.out _ _ ⟨_, rfl, Only.refl _ _, rfl⟩
              · intro vals wr hR hp K hK
                dsimp only at hK ⊢
                obtain ⟨p1, -⟩ := hp
                replace p1 := p1 rfl
                dsimp only at p1
                rw [p1] at hK ⊢
                clear p1
                unfold RunsOp
                go_simp
                exact hK.out _ _ ⟨_, rfl, Only.refl _ _, rfl⟩
              · intro vals wr hR hp K hK
                dsimp only at hK ⊢
                obtain ⟨p2, -⟩ := hp
                replace p2 := p2 rfl
                dsimp only at p2
                rw [p2] at hK ⊢
                clear p2
                unfold RunsOp
                go_simp
                exact hK.out _ _ ⟨_, rfl, Only.refl _ _, rfl⟩
              · intro vals wr hR hp K hK
                dsimp only at hK ⊢
                obtain ⟨p3, -⟩ := hp
                replace p3 := p3 rfl
                dsimp only at p3
                rw [p3] at hK ⊢
                clear p3
                unfold RunsOp
                have k0 := (hR.cell (p := ⟨g, 1, none⟩) HG.out.2.2 (by simp)).trans HG.out.2.1
                go_simp
                exact hK.out _ _ ⟨_, rfl, Only.refl _ _, rfl⟩
              · intro vals wr hR hp K hK
                dsimp only at hK ⊢
                clear hp
                unfold RunsOp
                go_simp
                exact hK.out _ _ ⟨_, rfl, Only.refl _ _, rfl⟩
              · intro vals wr hR hp K hK
                dsimp only at hK ⊢
                obtain ⟨p4, p5, -⟩ := hp
                replace p4 := p4 rfl
                replace p5 := p5 rfl
                dsimp only at p4 p5
                rw [p4, p5] at hK ⊢
                clear p4 p5
                unfold RunsOp
                have i1 : (0 : Int) ≤ (d : Int) := by omega
                have i2 : (d : Int) ≤ (ln : Int) := by omega
                go_simp
                exact hK.out _ _ ⟨_, rfl, Only.refl _ _, rfl⟩
              · intro vals wr hR hp K hK
                dsimp only at hK ⊢
                clear hp
                unfold RunsOp
                have k0 := (hR.cell (p := ⟨wq.heap.size, 0, none⟩) HBX.out.2.2 (by simp)).trans HBX.out.1
                have k1 := (hR.cell (p := ⟨wq.heap.size, 1, none⟩) HBX.out.2.2 (by simp)).trans HBX.out.2.1
                go_simp
                exact hK.out _ _ ⟨_, rfl, Only.refl _ _, rfl⟩
              · intro vals wr hR hp K hK
                dsimp only at hK ⊢
                clear hp
                unfold RunsOp
                go_simp
                exact hK.out _ _ ⟨_, rfl, Only.refl _ _, rfl⟩
              · intro vals wr hR hp K hK
                dsimp only at hK ⊢
                obtain ⟨p8, -⟩ := hp
                replace p8 := p8 rfl
                dsimp only at p8
                rw [p8] at hK ⊢
                clear p8
                unfold RunsOp
                go_simp
                exact hK.out _ _ ⟨_, rfl, Only.refl _ _, rfl⟩
              · intro vals wr hR hp K hK
                dsimp only at hK ⊢
                obtain ⟨p9, -⟩ := hp
                replace p9 := p9 rfl
                dsimp only at p9
                rw [p9] at hK ⊢
                clear p9
                unfold RunsOp
                go_simp
                exact hK.out _ _ ⟨_, rfl, Only.refl _ _, rfl⟩
              · intro vals wr hR hp K hK
                dsimp only at hK ⊢
                obtain ⟨p10, -⟩ := hp
                replace p10 := p10 rfl
                dsimp only at p10
                rw [p10] at hK ⊢
                clear p10
                unfold RunsOp
                have k0 := (hR.cell (p := ⟨g, 0, none⟩) HG.out.2.2 (by simp)).trans HG.out.1
                go_simp
                exact hK.out _ _ ⟨_, rfl, Only.refl _ _, rfl⟩
              · intro vals wr hR hp K hK
                dsimp only at hK ⊢
                obtain ⟨p6, p7, p11, -⟩ := hp
                replace p6 := p6 rfl
                replace p7 := p7 rfl
                replace p11 := p11 rfl
                dsimp only at p6 p7 p11
                rw [p6, p7, p11] at hK ⊢
                clear p6 p7 p11
                unfold RunsOp
                go_simp
                refine (HB.out _ ((Only.refl [] _).drew.trans hR (by simp))).mono ?_
                rintro e' w2 ⟨rfl, o2⟩
                exact hK.out _ _ ⟨_, rfl, o2, rfl⟩
              · intro vals wr hR hp K hK
                dsimp only at hK ⊢
                obtain ⟨p0, p12, -⟩ := hp
                replace p0 := p0 rfl
                replace p12 := p12 rfl
                dsimp only at p0 p12
                rw [p0, p12] at hK ⊢
                clear p0 p12
                unfold RunsOp
                have hwr : IntKind.i64.wrap ((d : Int) + (bh : Int)) = (d : Int) + (bh : Int) := IntWalk.i64_in _ (by omega)
                go_simp
                exact hK.out _ _ ⟨_, rfl, Only.refl _ _, rfl⟩
              · intro vals wr hR hp K hK
                dsimp only at hK ⊢
                obtain ⟨p13, -, -, -, -, -, -, -, -, -, -, -, -, -, -, -, -⟩ := hp
                replace p13 := p13 rfl
                dsimp only at p13
                rw [p13] at hK ⊢
                clear p13
                unfold RunsOp
                go_simp
                exact hK.out _ _ ⟨_, rfl, Only.refl _ _, rfl⟩
            case doneg3 =>
              intro vals wd hR hF
              have f0 : vals 0 = .int .i64 (d : Nat) := hF 0 (by decide)
              have f1 : vals 1 = .pointer (some ⟨g, 0, none⟩) := hF 1 (by decide)
              have f2 : vals 2 = .pointer (some ⟨g, 0, none⟩) := hF 2 (by decide)
              have f3 : vals 3 = .pointer (some ⟨g, 1, none⟩) := hF 3 (by decide)
              have f4 : vals 4 = .slice (some ⟨b0, 0, none⟩) ln c := hF 4 (by decide)
              have f5 : vals 5 = .int .i64 (d : Nat) := hF 5 (by decide)
              have f6 : vals 6 = .slice (some ⟨b0, d * 2, none⟩) (ln - d) (c - d) := hF 6 (by decide)
              have f7 : vals 7 = .agg #[.int .i64 x.1, .int .i64 x.2] := hF 7 (by decide)
              have f8 : vals 8 = .pointer (some ⟨g, 0, none⟩) := hF 8 (by decide)
              have f9 : vals 9 = .pointer (some ⟨g, 0, none⟩) := hF 9 (by decide)
              have f10 : vals 10 = .pointer (some ⟨g, 0, none⟩) := hF 10 (by decide)
              have f11 : vals 11 = .func (.func 22) #[] #[] := hF 11 (by decide)
              have f12 : (vals 12) = .int .i64 (bh : Nat) := hF 12 (by decide)
              have f13 : vals 13 = .int .i64 ((d : Int) + (bh : Int)) := hF 13 (by decide)
              have f14 : vals 14 = .int .i64 ((d : Int) + (bh : Int)) := hF 14 (by decide)
              rw [f0, f1, f2, f3, f4, f5, f6, f7, f8, f9, f10, f11, f13, f14]
              clear f0 f1 f2 f3 f4 f5 f6 f7 f8 f9 f10 f11 f13 f14
              rw [f12]
              clear f12
              have HOd := Lib.hid ((Only.refl [] (wq.alloc (.cells #[.int .i64 x.1, .int .i64 x.2] 49))).drew.trans hR (by simp))
              clear hR hF
              have hQ8 := ownsRow_only HOd.out (ownsRow_only (((Only.refl [] wq).alloc (.cells #[.int .i64 x.1, .int .i64 x.2] 49))) HQ.out (by simp)) (by simp)
              have hU : RowC wd (some ⟨b0, d * 2, none⟩) (flat2 ((L.drop d).take bh)) := by
                have h := (HRW.out.only HOd.out).take (bh * 2)
                rw [flat2_take] at h
                exact h
              have hsz8 := HOd.out.size
              have hsz7 : wq.heap.size ≤ (wq.alloc (.cells #[.int .i64 x.1, .int .i64 x.2] 49)).heap.size := (show Only [] wq (wq.alloc (.cells #[.int .i64 x.1, .int .i64 x.2] 49)) from ((Only.refl [] wq).alloc (.cells #[.int .i64 x.1, .int .i64 x.2] 49))).size
              obtain ⟨A5, c5, w5, hr5, ho5, hg5, -⟩ := run_append_rowC (P := Try.prog) (t := 51) (e := 49) (c := (c - d)) (m := bh) 51 (by omega) Try.underlying51 item_info rfl hQ8 hU (flat2_one _) (by rw [len_flat2, List.length_take, List.length_drop, HLN.out]; congr 1; omega) (by omega) (by unfold maxLen; omega) (by omega)
              have hsz5 := hg5.size
              obtain ⟨A6, c6, w6, hr6, ho6, hg6, -⟩ := run_append_rowC (P := Try.prog) (t := 51) (e := 49) (c := 1) (m := 1) 51 (by omega) Try.underlying51 item_info rfl (ho5.alloc (.cells #[.int .i64 x.1, .int .i64 x.2] 49)) (row_newJ w5 x) (flat2_one _) (by rw [len_flat2]; rfl) (by simp; omega) (by unfold maxLen; omega) (by omega)
              have HQ6 := Lib.hid (show w6.ownsRow w2.heap.size 49 2 (.slice A6 (d + k + bh + 1) c6) (d + k + bh + 1) (flat2 ((O ++ (L.drop d).take bh) ++ [x])) by rw [flat2_append, flat2_append]; exact ho6)
              have o8 : Only [] w2 wd := (HO.out.trans (((Only.refl [] wq).alloc (.cells #[.int .i64 x.1, .int .i64 x.2] 49))) (by simp)).trans HOd.out (by simp)
              have o5 : Only [] w2 w5 := o8.trans hg5 (fun y hy => .inr (by
                have := hQ8.lt y (by simpa using hy)
                omega))
              have HO6 := Lib.hid (show Only [] w2 w6 from (o5.alloc _).trans hg6 (fun y hy => .inr (by
                have := ho5.lt y (by simpa using hy)
                omega)))
              have g1 : wd.cell? ⟨g, 1, none⟩ = some (.slice (some ⟨b0, 0, none⟩) ln c) := (HOd.out.cell (p := ⟨g, 1, none⟩) HG.out.2.2 (by simp)).trans HG.out.2.1
              have gl : g < wd.heap.size := by have := HG.out.2.2; omega
              have j0 : (0 : Int) ≤ (d : Int) := by omega
              have j1 : (d : Int) ≤ (d : Int) + (bh : Int) := by omega
              have j2 : (d : Int) + (bh : Int) ≤ (c : Int) := by omega
              have j3 : ((d : Int) + (bh : Int)).toNat - d = bh := by omega
              have hnb : wq.heap.size ∉ (Value.slice A' (d + k) c').ownBlock.toList := fun h => by
                have := HQ.out.lt _ (by simpa using h)
                omega
              have hbl : wq.heap.size < wd.heap.size := by have := HBX.out.2.2; omega
              have x0 : w5.cell? ⟨wq.heap.size, 0, none⟩ = some (.int .i64 x.1) := (hg5.cell (p := ⟨wq.heap.size, 0, none⟩) hbl hnb).trans ((HOd.out.cell (p := ⟨wq.heap.size, 0, none⟩) HBX.out.2.2 (by simp)).trans HBX.out.1)
              have x1 : w5.cell? ⟨wq.heap.size, 1, none⟩ = some (.int .i64 x.2) := (hg5.cell (p := ⟨wq.heap.size, 1, none⟩) hbl hnb).trans ((HOd.out.cell (p := ⟨wq.heap.size, 1, none⟩) HBX.out.2.2 (by simp)).trans HBX.out.2.1)
              clear hnb
              clear hQ8 hU ho5 ho6 hg5 hg6 o8 o5 HB HRW HG HT4
              gi_wp2_with (fail)
              go_wp2_with (at_builtin; first | (refine wpList_append_run hr5 rfl _ _ rfl rfl rfl rfl ?_; clear hr5) | (refine wpList_append_run hr6 rfl _ _ rfl rfl rfl rfl ?_; clear hr6))
              go_roundw
              case rel => exact ⟨_, d + bh, k + 1, c6, A6, by rw [show d + k + bh + 1 = d + bh + (k + 1) by omega], by go_num, by go_num, by omega, by omega, HST, by rw [show d + bh + (k + 1) = d + k + bh + 1 by omega]; exact HQ6, HO6⟩
              case measure => simp [intOf]; omega
      · obtain rfl : k = nl := by omega
        have hk2 : ((k : Int) < (k : Int)) = False := by simp
        rcases own_form HT3.out.row with ⟨rfl, hl0, hc0⟩ | ⟨⟨b0, rfl⟩, hlc⟩
        · have HZ0 := Lib.hid (show ln = 0 ∧ c = 0 from ⟨by rw [← HLN.out]; exact hl0, hc0⟩)
          have hlc : ln ≤ c := by have := HZ0.out; omega
          clear hl0 hc0
          have HT4 := HT3.out
          have hbk := HT4.blk
          rw [HLN.out] at hbk
          obtain ⟨g0, g1, gl⟩ := hbk.facts2
          have hrow : RowC (wq) none (flat2 (L.drop d)) := by rw [List.drop_of_length_le (by have := HZ0.out; have := HLN.out; omega)]; exact RowC.nil _ _
          have hdl2 : (L.drop d).length = (ln - d) := by rw [List.length_drop, HLN.out]
          obtain ⟨A6, c6, w6, hr6, ho6, hg6, -⟩ := run_append_rowC (P := Try.prog) (t := 51) (e := 49) (c := (c - d)) (m := (ln - d)) 51 (by omega) Try.underlying51 item_info rfl HQ.out hrow (flat2_one _) (by rw [len_flat2, hdl2]) (by omega) (by unfold maxLen; omega) (by omega)
          rw [← flat2_append] at ho6
          have hgl2 : g ∉ (Value.slice A' (d + k) c').ownBlock.toList := fun h => by
            have := HQ.out.lt _ (by simpa using h)
            omega
          have hb6 := hg6.blk hbk hgl2
          have gf6 : w6.frozen? ⟨g, 1, none⟩ = false := hb6.frozen 1
          obtain ⟨g60, g61, gl6⟩ := hb6.facts2
          have hmd := HMG.out
          have hvl := HVL.out
          rw [← hvl] at hmd
          have hend := hmd.done HT4.srt
          rw [← HV.out, st_app2] at hend
          have hlen : (st keyJ (L ++ M)).length = d + k + (ln - d) := by rw [st_len, List.length_append, HLN.out, HN.out]; omega
          have hsz6 := hg6.size
          have hB6 := HW.out
          have HFIN := Lib.hid (show BBJ B (w6.setCell ⟨g, 1, none⟩ (.slice A6 (d + k + (ln - d)) c6)) g (st keyJ (L ++ M)) A6 c6 from ⟨by
            rw [hlen]
            exact hb6.set_ 1 _, by
            rw [hlen, ← hend]
            exact ownsRow_only (only_setCell _ _ _) (own_base ho6 (by omega)) (fun x hx => by
              have := ho6.lt x hx
              simp
              omega), st_sorted _⟩)
          have HOF := Lib.hid (show Only [g] w (w6.setCell ⟨g, 1, none⟩ (.slice A6 (d + k + (ln - d)) c6)) from ((Only.refl [g] w).trans ((HO12.out.trans HO.out (by simp)).trans hg6 (fun y hy => .inr (by
            have := HQ.out.lt y (by simpa using hy)
            omega))) (by simp)).setCell (.inl (by simp)) _)
          have j1 : (d : Int) ≤ (ln : Int) := by omega
          have j0 : (0 : Int) ≤ (d : Int) := by omega
          clear hmd hvl hend hlen hsz6 hB6 hbk hb6 ho6 hg6 hgl2 hdl2 hrow HT4
          go_wp2_with (at_builtin; refine wpList_append_run hr6 rfl _ _ rfl rfl rfl rfl ?_; clear hr6)
          go_end0
          exact ⟨rfl, ⟨_, _, HFIN.out⟩, HOF.out⟩
        · rw [HLN.out] at hlc
          by_cases hce : c = d
          · obtain rfl : d = c := hce.symm
            obtain rfl : d = ln := by omega
            have HT4 := HT3.out
            have hbk := HT4.blk
            rw [HLN.out] at hbk
            obtain ⟨g0, g1, gl⟩ := hbk.facts2
            have hrow : RowC (wq) (some ⟨b0, 0, none⟩) (flat2 (L.drop d)) := by rw [List.drop_of_length_le (by have := HLN.out; omega)]; exact RowC.nil _ _
            have hdl2 : (L.drop d).length = 0 := by rw [List.length_drop, HLN.out]; omega
            obtain ⟨A6, c6, w6, hr6, ho6, hg6, -⟩ := run_append_rowC (P := Try.prog) (t := 51) (e := 49) (c := 0) (m := 0) 51 (by omega) Try.underlying51 item_info rfl HQ.out hrow (flat2_one _) (by rw [len_flat2, hdl2]) (by omega) (by unfold maxLen; omega) (by omega)
            rw [← flat2_append] at ho6
            have hgl2 : g ∉ (Value.slice A' (d + k) c').ownBlock.toList := fun h => by
              have := HQ.out.lt _ (by simpa using h)
              omega
            have hb6 := hg6.blk hbk hgl2
            have gf6 : w6.frozen? ⟨g, 1, none⟩ = false := hb6.frozen 1
            obtain ⟨g60, g61, gl6⟩ := hb6.facts2
            have hmd := HMG.out
            have hvl := HVL.out
            rw [← hvl] at hmd
            have hend := hmd.done HT4.srt
            rw [← HV.out, st_app2] at hend
            have hlen : (st keyJ (L ++ M)).length = d + k + 0 := by rw [st_len, List.length_append, HLN.out, HN.out]; omega
            have hsz6 := hg6.size
            have hB6 := HW.out
            have HFIN := Lib.hid (show BBJ B (w6.setCell ⟨g, 1, none⟩ (.slice A6 (d + k) c6)) g (st keyJ (L ++ M)) A6 c6 from ⟨by
              rw [hlen]
              exact hb6.set_ 1 _, by
              rw [hlen, ← hend]
              exact ownsRow_only (only_setCell _ _ _) (own_base ho6 (by omega)) (fun x hx => by
                have := ho6.lt x hx
                simp
                omega), st_sorted _⟩)
            have HOF := Lib.hid (show Only [g] w (w6.setCell ⟨g, 1, none⟩ (.slice A6 (d + k) c6)) from ((Only.refl [g] w).trans ((HO12.out.trans HO.out (by simp)).trans hg6 (fun y hy => .inr (by
              have := HQ.out.lt y (by simpa using hy)
              omega))) (by simp)).setCell (.inl (by simp)) _)
            have j1 : (d : Int) ≤ (d : Int) := by omega
            have j0 : (0 : Int) ≤ (d : Int) := by omega
            clear hmd hvl hend hlen hsz6 hB6 hbk hb6 ho6 hg6 hgl2 hdl2 hrow HT4
            go_wp2_with (at_builtin; refine wpList_append_run hr6 rfl _ _ rfl rfl rfl rfl ?_; clear hr6)
            go_end0
            exact ⟨rfl, ⟨_, _, HFIN.out⟩, HOF.out⟩
          · skip
            have HT4 := HT3.out
            have hbk := HT4.blk
            rw [HLN.out] at hbk
            obtain ⟨g0, g1, gl⟩ := hbk.facts2
            have hrow := (own_rowC (by rw [len_flat2]) HT4.row).drop (d * 2)
            rw [Nat.zero_add, flat2_drop] at hrow
            have hdl2 : (L.drop d).length = (ln - d) := by rw [List.length_drop, HLN.out]
            obtain ⟨A6, c6, w6, hr6, ho6, hg6, -⟩ := run_append_rowC (P := Try.prog) (t := 51) (e := 49) (c := (c - d)) (m := (ln - d)) 51 (by omega) Try.underlying51 item_info rfl HQ.out hrow (flat2_one _) (by rw [len_flat2, hdl2]) (by omega) (by unfold maxLen; omega) (by omega)
            rw [← flat2_append] at ho6
            have hgl2 : g ∉ (Value.slice A' (d + k) c').ownBlock.toList := fun h => by
              have := HQ.out.lt _ (by simpa using h)
              omega
            have hb6 := hg6.blk hbk hgl2
            have gf6 : w6.frozen? ⟨g, 1, none⟩ = false := hb6.frozen 1
            obtain ⟨g60, g61, gl6⟩ := hb6.facts2
            have hmd := HMG.out
            have hvl := HVL.out
            rw [← hvl] at hmd
            have hend := hmd.done HT4.srt
            rw [← HV.out, st_app2] at hend
            have hlen : (st keyJ (L ++ M)).length = d + k + (ln - d) := by rw [st_len, List.length_append, HLN.out, HN.out]; omega
            have hsz6 := hg6.size
            have hB6 := HW.out
            have HFIN := Lib.hid (show BBJ B (w6.setCell ⟨g, 1, none⟩ (.slice A6 (d + k + (ln - d)) c6)) g (st keyJ (L ++ M)) A6 c6 from ⟨by
              rw [hlen]
              exact hb6.set_ 1 _, by
              rw [hlen, ← hend]
              exact ownsRow_only (only_setCell _ _ _) (own_base ho6 (by omega)) (fun x hx => by
                have := ho6.lt x hx
                simp
                omega), st_sorted _⟩)
            have HOF := Lib.hid (show Only [g] w (w6.setCell ⟨g, 1, none⟩ (.slice A6 (d + k + (ln - d)) c6)) from ((Only.refl [g] w).trans ((HO12.out.trans HO.out (by simp)).trans hg6 (fun y hy => .inr (by
              have := HQ.out.lt y (by simpa using hy)
              omega))) (by simp)).setCell (.inl (by simp)) _)
            have j1 : (d : Int) ≤ (ln : Int) := by omega
            have j0 : (0 : Int) ≤ (d : Int) := by omega
            clear hmd hvl hend hlen hsz6 hB6 hbk hb6 ho6 hg6 hgl2 hdl2 hrow HT4
            go_wp2_with (at_builtin; refine wpList_append_run hr6 rfl _ _ rfl rfl rfl rfl ?_; clear hr6)
            go_end0
            exact ⟨rfl, ⟨_, _, HFIN.out⟩, HOF.out⟩
end Go.Proofs.Ytpedlapemgjgaaa
