/- Count. -/
import Derived.Test.YtpedlapemgjgaaaAt
namespace Go.Proofs.Ytpedlapemgjgaaa
open Go.RowKit Go.Kx Go.Bag
set_option maxRecDepth 100000
set_option maxHeartbeats 4000000 in
theorem countI {B : Nat} {w : World} {g : Nat} {L : List Int} {A : Option Addr} {c : Nat} (hT : BBI B w g L A c) (x : Int) (hn : L.length ≤ 1000000) :
    Calls Try.prog 13 #[.pointer (some ⟨g, 0, none⟩), .int .i64 x] w fun e w' => e = .returned (.int .i64 ((behindB keyI L (keyI x) : Int) - (aheadB keyI L (keyI x) : Int))) ∧ Only [] w w' := by
  have h0 : Only [] w (w) := Only.refl _ _
  have hT2 := hT.keep h0
  have HG := Lib.hid hT2.blk.facts2
  have hr := own_rowC (by rw [len_flat1]) hT2.row
  have HP := Lib.hid (fun (W : World) (o : Only [] (w) W) => behindI (x := x) (c := c) (hr.only o) rfl hn hT.srt)
  have HQ := Lib.hid (fun (W : World) (o : Only [] (w) W) => aheadI (x := x) (c := c) (hr.only o) rfl hn hT.srt)
  have b1 := behindB_le (key := keyI) L (keyI x)
  have b2 := aheadB_le (key := keyI) L (keyI x)
  obtain ⟨g0, g1, gl⟩ := hT.blk.facts2
  generalize behindB keyI L (keyI x) = p at *
  generalize aheadB keyI L (keyI x) = q at *
  generalize L.length = n at *
  skip
  have H0 := Lib.hid h0
  clear hT hr hT2 h0
  go_enter Try.func13, Try.ntmps13
  go_wp2_with (fail)
  refine (wpIn_wide (n := 9)).1 ?_
  refine wpIn_region_relR 22 (Only []) (fr := ?frg) (tl := ?tlg) (fun iq v wv => match iq with
    | 0 => v = .pointer (some ⟨g, 0, none⟩)
    | 1 => v = .pointer (some ⟨g, 0, none⟩)
    | 2 => v = .pointer (some ⟨g, 1, none⟩)
    | 3 => v = .slice A n c
    | 4 => v = .int .i64 x
    | 5 => v = .pointer (some ⟨g, 0, none⟩)
    | 6 => v = .pointer (some ⟨g, 0, none⟩)
    | 7 => v = .pointer (some ⟨g, 0, none⟩)
    | 8 => v = .func (.func 11) #[] #[]
    | 9 => v = .int .i64 (p : Nat)
    | 10 => v = .pointer (some ⟨g, 0, none⟩)
    | 11 => v = .pointer (some ⟨g, 0, none⟩)
    | 12 => v = .pointer (some ⟨g, 1, none⟩)
    | 13 => v = .slice A n c
    | 14 => v = .int .i64 x
    | 15 => v = .pointer (some ⟨g, 0, none⟩)
    | 16 => v = .pointer (some ⟨g, 0, none⟩)
    | 17 => v = .pointer (some ⟨g, 0, none⟩)
    | 18 => v = .func (.func 11) #[] #[]
    | 19 => v = .int .i64 (q : Nat)
    | 20 => v = .int .i64 ((p : Int) - (q : Int))
    | 21 => v = .int .i64 ((p : Int) - (q : Int))
    | _ => True) (.inl rfl) (by kernel_rfl) (by kernel_rfl) (by kernel_rfl) (by kernel_rfl) (by kernel_rfl) (by kernel_rfl) (by decide) ?htlg ?hfrg (Only.refl _ _) (fun _ _ _ h k => h.trans k (fun _ hx => .inl hx)) ?stabg ?stepsg ?doneg
  case htlg => simp only [List.drop_succ_cons, List.drop_zero]; rfl
  case hfrg => intro vals; simp only [putAll, dstAt, Act.put, List.getElem?_toArray, List.getElem?_cons_zero, List.getElem?_cons_succ, Option.bind_some, List.setIfInBounds_toArray, List.set_cons_zero, List.set_cons_succ]; rfl
  case stabg =>
    intro i v wa wb h
    try dsimp only
    split <;> first | exact id
  case stepsg =>
    refine ⟨?_, ?_, ?_, ?_, ?_, ?_, ?_, ?_, ?_, ?_, ?_, ?_, ?_, ?_, ?_, ?_, ?_, ?_, ?_, ?_, ?_, ?_, trivial⟩
    · intro vals wr hR hp K hK
      dsimp only at hK ⊢
      clear hp
      unfold RunsOp
      go_simp
      exact hK.out _ _ ⟨_, rfl, Only.refl _ _, rfl⟩
    · intro vals wr hR hp K hK
      dsimp only at hK ⊢
      obtain ⟨p0, -⟩ := hp
      replace p0 := p0 rfl
      dsimp only at p0
      rw [p0] at hK ⊢
      clear p0
      unfold RunsOp
      go_simp
      exact hK.out _ _ ⟨_, rfl, Only.refl _ _, rfl⟩
    · intro vals wr hR hp K hK
      dsimp only at hK ⊢
      obtain ⟨p1, -⟩ := hp
      replace p1 := p1 rfl
      dsimp only at p1
      rw [p1] at hK ⊢
      clear p1
      unfold RunsOp
      go_simp
      exact hK.out _ _ ⟨_, rfl, Only.refl _ _, rfl⟩
    · intro vals wr hR hp K hK
      dsimp only at hK ⊢
      obtain ⟨p2, -⟩ := hp
      replace p2 := p2 rfl
      dsimp only at p2
      rw [p2] at hK ⊢
      clear p2
      unfold RunsOp
      have k0 := (hR.cell (p := ⟨g, 1, none⟩) HG.out.2.2 (by simp)).trans HG.out.2.1
      go_simp
      exact hK.out _ _ ⟨_, rfl, Only.refl _ _, rfl⟩
    · intro vals wr hR hp K hK
      dsimp only at hK ⊢
      clear hp
      unfold RunsOp
      go_simp
      exact hK.out _ _ ⟨_, rfl, Only.refl _ _, rfl⟩
    · intro vals wr hR hp K hK
      dsimp only at hK ⊢
      clear hp
      unfold RunsOp
      go_simp
      exact hK.out _ _ ⟨_, rfl, Only.refl _ _, rfl⟩
    · intro vals wr hR hp K hK
      dsimp only at hK ⊢
      obtain ⟨p5, -⟩ := hp
      replace p5 := p5 rfl
      dsimp only at p5
      rw [p5] at hK ⊢
      clear p5
      unfold RunsOp
      go_simp
      exact hK.out _ _ ⟨_, rfl, Only.refl _ _, rfl⟩
    · intro vals wr hR hp K hK
      dsimp only at hK ⊢
      obtain ⟨p6, -⟩ := hp
      replace p6 := p6 rfl
      dsimp only at p6
      rw [p6] at hK ⊢
      clear p6
      unfold RunsOp
      go_simp
      exact hK.out _ _ ⟨_, rfl, Only.refl _ _, rfl⟩
    · intro vals wr hR hp K hK
      dsimp only at hK ⊢
      obtain ⟨p7, -⟩ := hp
      replace p7 := p7 rfl
      dsimp only at p7
      rw [p7] at hK ⊢
      clear p7
      unfold RunsOp
      have k0 := (hR.cell (p := ⟨g, 0, none⟩) HG.out.2.2 (by simp)).trans HG.out.1
      go_simp
      exact hK.out _ _ ⟨_, rfl, Only.refl _ _, rfl⟩
    · intro vals wr hR hp K hK
      dsimp only at hK ⊢
      obtain ⟨p3, p4, p8, -⟩ := hp
      replace p3 := p3 rfl
      replace p4 := p4 rfl
      replace p8 := p8 rfl
      dsimp only at p3 p4 p8
      rw [p3, p4, p8] at hK ⊢
      clear p3 p4 p8
      unfold RunsOp
      go_simp
      refine (HP.out _ ((Only.refl [] _).drew.trans hR (by simp))).mono ?_
      rintro e' w2 ⟨rfl, o2⟩
      exact hK.out _ _ ⟨_, rfl, o2, rfl⟩
    · intro vals wr hR hp K hK
      dsimp only at hK ⊢
      clear hp
      unfold RunsOp
      go_simp
      exact hK.out _ _ ⟨_, rfl, Only.refl _ _, rfl⟩
    · intro vals wr hR hp K hK
      dsimp only at hK ⊢
      obtain ⟨p10, -⟩ := hp
      replace p10 := p10 rfl
      dsimp only at p10
      rw [p10] at hK ⊢
      clear p10
      unfold RunsOp
      go_simp
      exact hK.out _ _ ⟨_, rfl, Only.refl _ _, rfl⟩
    · intro vals wr hR hp K hK
      dsimp only at hK ⊢
      obtain ⟨p11, -⟩ := hp
      replace p11 := p11 rfl
      dsimp only at p11
      rw [p11] at hK ⊢
      clear p11
      unfold RunsOp
      go_simp
      exact hK.out _ _ ⟨_, rfl, Only.refl _ _, rfl⟩
    · intro vals wr hR hp K hK
      dsimp only at hK ⊢
      obtain ⟨p12, -⟩ := hp
      replace p12 := p12 rfl
      dsimp only at p12
      rw [p12] at hK ⊢
      clear p12
      unfold RunsOp
      have k0 := (hR.cell (p := ⟨g, 1, none⟩) HG.out.2.2 (by simp)).trans HG.out.2.1
      go_simp
      exact hK.out _ _ ⟨_, rfl, Only.refl _ _, rfl⟩
    · intro vals wr hR hp K hK
      dsimp only at hK ⊢
      clear hp
      unfold RunsOp
      go_simp
      exact hK.out _ _ ⟨_, rfl, Only.refl _ _, rfl⟩
    · intro vals wr hR hp K hK
      dsimp only at hK ⊢
      clear hp
      unfold RunsOp
      go_simp
      exact hK.out _ _ ⟨_, rfl, Only.refl _ _, rfl⟩
    · intro vals wr hR hp K hK
      dsimp only at hK ⊢
      obtain ⟨p15, -⟩ := hp
      replace p15 := p15 rfl
      dsimp only at p15
      rw [p15] at hK ⊢
      clear p15
      unfold RunsOp
      go_simp
      exact hK.out _ _ ⟨_, rfl, Only.refl _ _, rfl⟩
    · intro vals wr hR hp K hK
      dsimp only at hK ⊢
      obtain ⟨p16, -⟩ := hp
      replace p16 := p16 rfl
      dsimp only at p16
      rw [p16] at hK ⊢
      clear p16
      unfold RunsOp
      go_simp
      exact hK.out _ _ ⟨_, rfl, Only.refl _ _, rfl⟩
    · intro vals wr hR hp K hK
      dsimp only at hK ⊢
      obtain ⟨p17, -⟩ := hp
      replace p17 := p17 rfl
      dsimp only at p17
      rw [p17] at hK ⊢
      clear p17
      unfold RunsOp
      have k0 := (hR.cell (p := ⟨g, 0, none⟩) HG.out.2.2 (by simp)).trans HG.out.1
      go_simp
      exact hK.out _ _ ⟨_, rfl, Only.refl _ _, rfl⟩
    · intro vals wr hR hp K hK
      dsimp only at hK ⊢
      obtain ⟨p13, p14, p18, -, -⟩ := hp
      replace p13 := p13 rfl
      replace p14 := p14 rfl
      replace p18 := p18 rfl
      dsimp only at p13 p14 p18
      rw [p13, p14, p18] at hK ⊢
      clear p13 p14 p18
      unfold RunsOp
      go_simp
      refine (HQ.out _ ((Only.refl [] _).drew.trans hR (by simp))).mono ?_
      rintro e' w2 ⟨rfl, o2⟩
      exact hK.out _ _ ⟨_, rfl, o2, rfl⟩
    · intro vals wr hR hp K hK
      dsimp only at hK ⊢
      obtain ⟨p9, p19, -⟩ := hp
      replace p9 := p9 rfl
      replace p19 := p19 rfl
      dsimp only at p9 p19
      rw [p9, p19] at hK ⊢
      clear p9 p19
      unfold RunsOp
      have hwr : IntKind.i64.wrap ((p : Int) - (q : Int)) = (p : Int) - (q : Int) := IntWalk.i64_in _ (by omega)
      go_simp
      exact hK.out _ _ ⟨_, rfl, Only.refl _ _, rfl⟩
    · intro vals wr hR hp K hK
      dsimp only at hK ⊢
      obtain ⟨p20, -, -, -, -, -, -, -, -, -, -, -, -, -, -, -, -, -, -, -, -, -, -, -⟩ := hp
      replace p20 := p20 rfl
      dsimp only at p20
      rw [p20] at hK ⊢
      clear p20
      unfold RunsOp
      go_simp
      exact hK.out _ _ ⟨_, rfl, Only.refl _ _, rfl⟩
  case doneg =>
    intro vals wd hR hF
    have f21 : vals 21 = .int .i64 ((p : Int) - (q : Int)) := hF 21 (by decide)
    rw [f21]
    clear f21
    have HOd := Lib.hid (H0.out.trans ((Only.refl [] (w)).drew.trans hR (by simp)) (by simp))
    clear hR hF g0 g1 gl
    gi_wp2_with (fail)
    go_wp2_with (fail)
    go_ret
    exact ⟨rfl, HOd.out⟩
set_option maxHeartbeats 4000000 in
theorem countJ {B : Nat} {w : World} {g : Nat} {L : List Ent} {A : Option Addr} {c : Nat} (hT : BBJ B w g L A c) (x : Ent) (hn : L.length ≤ 1000000) :
    Calls Try.prog 27 #[.pointer (some ⟨g, 0, none⟩), .agg #[.int .i64 x.1, .int .i64 x.2]] w fun e w' => e = .returned (.int .i64 ((behindB keyJ L (keyJ x) : Int) - (aheadB keyJ L (keyJ x) : Int))) ∧ Only [] w w' := by
  have h0 : Only [] w (w.alloc (.cells #[.int .i64 x.1, .int .i64 x.2] 49)) := (Only.refl [] w).alloc _
  have hT2 := hT.keep h0
  have HG := Lib.hid hT2.blk.facts2
  have hr := own_rowC (by rw [len_flat2]) hT2.row
  have HP := Lib.hid (fun (W : World) (o : Only [] (w.alloc (.cells #[.int .i64 x.1, .int .i64 x.2] 49)) W) => behindJ (x := x) (c := c) (hr.only o) rfl hn hT.srt)
  have HQ := Lib.hid (fun (W : World) (o : Only [] (w.alloc (.cells #[.int .i64 x.1, .int .i64 x.2] 49)) W) => aheadJ (x := x) (c := c) (hr.only o) rfl hn hT.srt)
  have b1 := behindB_le (key := keyJ) L (keyJ x)
  have b2 := aheadB_le (key := keyJ) L (keyJ x)
  obtain ⟨g0, g1, gl⟩ := hT.blk.facts2
  generalize behindB keyJ L (keyJ x) = p at *
  generalize aheadB keyJ L (keyJ x) = q at *
  generalize L.length = n at *
  have HBX := Lib.hid (Blk.new w 49 #[.int .i64 x.1, .int .i64 x.2]).facts2
  have H0 := Lib.hid h0
  clear hT hr hT2 h0
  go_enter Try.func27, Try.ntmps27
  go_wp2_with (fail)
  refine (wpIn_wide (n := 9)).1 ?_
  refine wpIn_region_relR 22 (Only []) (fr := ?frg) (tl := ?tlg) (fun iq v wv => match iq with
    | 0 => v = .pointer (some ⟨g, 0, none⟩)
    | 1 => v = .pointer (some ⟨g, 0, none⟩)
    | 2 => v = .pointer (some ⟨g, 1, none⟩)
    | 3 => v = .slice A n c
    | 4 => v = .agg #[.int .i64 x.1, .int .i64 x.2]
    | 5 => v = .pointer (some ⟨g, 0, none⟩)
    | 6 => v = .pointer (some ⟨g, 0, none⟩)
    | 7 => v = .pointer (some ⟨g, 0, none⟩)
    | 8 => v = .func (.func 22) #[] #[]
    | 9 => v = .int .i64 (p : Nat)
    | 10 => v = .pointer (some ⟨g, 0, none⟩)
    | 11 => v = .pointer (some ⟨g, 0, none⟩)
    | 12 => v = .pointer (some ⟨g, 1, none⟩)
    | 13 => v = .slice A n c
    | 14 => v = .agg #[.int .i64 x.1, .int .i64 x.2]
    | 15 => v = .pointer (some ⟨g, 0, none⟩)
    | 16 => v = .pointer (some ⟨g, 0, none⟩)
    | 17 => v = .pointer (some ⟨g, 0, none⟩)
    | 18 => v = .func (.func 22) #[] #[]
    | 19 => v = .int .i64 (q : Nat)
    | 20 => v = .int .i64 ((p : Int) - (q : Int))
    | 21 => v = .int .i64 ((p : Int) - (q : Int))
    | _ => True) (.inl rfl) (by kernel_rfl) (by kernel_rfl) (by kernel_rfl) (by kernel_rfl) (by kernel_rfl) (by kernel_rfl) (by decide) ?htlg ?hfrg (Only.refl _ _) (fun _ _ _ h k => h.trans k (fun _ hx => .inl hx)) ?stabg ?stepsg ?doneg
  case htlg => simp only [List.drop_succ_cons, List.drop_zero]; rfl
  case hfrg => intro vals; simp only [putAll, dstAt, Act.put, List.getElem?_toArray, List.getElem?_cons_zero, List.getElem?_cons_succ, Option.bind_some, List.setIfInBounds_toArray, List.set_cons_zero, List.set_cons_succ]; rfl
  case stabg =>
    intro i v wa wb h
    try dsimp only
    split <;> first | exact id
  case stepsg =>
    refine ⟨?_, ?_, ?_, ?_, ?_, ?_, ?_, ?_, ?_, ?_, ?_, ?_, ?_, ?_, ?_, ?_, ?_, ?_, ?_, ?_, ?_, ?_, trivial⟩
    · intro vals wr hR hp K hK
      dsimp only at hK ⊢
      clear hp
      unfold RunsOp
      go_simp
      exact hK.out _ _ ⟨_, rfl, Only.refl _ _, rfl⟩
    · intro vals wr hR hp K hK
      dsimp only at hK ⊢
      obtain ⟨p0, -⟩ := hp
      replace p0 := p0 rfl
      dsimp only at p0
      rw [p0] at hK ⊢
      clear p0
      unfold RunsOp
      go_simp
      exact hK.out _ _ ⟨_, rfl, Only.refl _ _, rfl⟩
    · intro vals wr hR hp K hK
      dsimp only at hK ⊢
      obtain ⟨p1, -⟩ := hp
      replace p1 := p1 rfl
      dsimp only at p1
      rw [p1] at hK ⊢
      clear p1
      unfold RunsOp
      go_simp
      exact hK.out _ _ ⟨_, rfl, Only.refl _ _, rfl⟩
    · intro vals wr hR hp K hK
      dsimp only at hK ⊢
      obtain ⟨p2, -⟩ := hp
      replace p2 := p2 rfl
      dsimp only at p2
      rw [p2] at hK ⊢
      clear p2
      unfold RunsOp
      have k0 := (hR.cell (p := ⟨g, 1, none⟩) HG.out.2.2 (by simp)).trans HG.out.2.1
      go_simp
      exact hK.out _ _ ⟨_, rfl, Only.refl _ _, rfl⟩
    · intro vals wr hR hp K hK
      dsimp only at hK ⊢
      clear hp
      unfold RunsOp
      have k0 := (hR.cell (p := ⟨w.heap.size, 0, none⟩) HBX.out.2.2 (by simp)).trans HBX.out.1
      have k1 := (hR.cell (p := ⟨w.heap.size, 1, none⟩) HBX.out.2.2 (by simp)).trans HBX.out.2.1
      go_simp
      exact hK.out _ _ ⟨_, rfl, Only.refl _ _, rfl⟩
    · intro vals wr hR hp K hK
      dsimp only at hK ⊢
      clear hp
      unfold RunsOp
      go_simp
      exact hK.out _ _ ⟨_, rfl, Only.refl _ _, rfl⟩
    · intro vals wr hR hp K hK
      dsimp only at hK ⊢
      obtain ⟨p5, -⟩ := hp
      replace p5 := p5 rfl
      dsimp only at p5
      rw [p5] at hK ⊢
      clear p5
      unfold RunsOp
      go_simp
      exact hK.out _ _ ⟨_, rfl, Only.refl _ _, rfl⟩
    · intro vals wr hR hp K hK
      dsimp only at hK ⊢
      obtain ⟨p6, -⟩ := hp
      replace p6 := p6 rfl
      dsimp only at p6
      rw [p6] at hK ⊢
      clear p6
      unfold RunsOp
      go_simp
      exact hK.out _ _ ⟨_, rfl, Only.refl _ _, rfl⟩
    · intro vals wr hR hp K hK
      dsimp only at hK ⊢
      obtain ⟨p7, -⟩ := hp
      replace p7 := p7 rfl
      dsimp only at p7
      rw [p7] at hK ⊢
      clear p7
      unfold RunsOp
      have k0 := (hR.cell (p := ⟨g, 0, none⟩) HG.out.2.2 (by simp)).trans HG.out.1
      go_simp
      exact hK.out _ _ ⟨_, rfl, Only.refl _ _, rfl⟩
    · intro vals wr hR hp K hK
      dsimp only at hK ⊢
      obtain ⟨p3, p4, p8, -⟩ := hp
      replace p3 := p3 rfl
      replace p4 := p4 rfl
      replace p8 := p8 rfl
      dsimp only at p3 p4 p8
      rw [p3, p4, p8] at hK ⊢
      clear p3 p4 p8
      unfold RunsOp
      go_simp
      refine (HP.out _ ((Only.refl [] _).drew.trans hR (by simp))).mono ?_
      rintro e' w2 ⟨rfl, o2⟩
      exact hK.out _ _ ⟨_, rfl, o2, rfl⟩
    · intro vals wr hR hp K hK
      dsimp only at hK ⊢
      clear hp
      unfold RunsOp
      go_simp
      exact hK.out _ _ ⟨_, rfl, Only.refl _ _, rfl⟩
    · intro vals wr hR hp K hK
      dsimp only at hK ⊢
      obtain ⟨p10, -⟩ := hp
      replace p10 := p10 rfl
      dsimp only at p10
      rw [p10] at hK ⊢
      clear p10
      unfold RunsOp
      go_simp
      exact hK.out _ _ ⟨_, rfl, Only.refl _ _, rfl⟩
    · intro vals wr hR hp K hK
      dsimp only at hK ⊢
      obtain ⟨p11, -⟩ := hp
      replace p11 := p11 rfl
      dsimp only at p11
      rw [p11] at hK ⊢
      clear p11
      unfold RunsOp
      go_simp
      exact hK.out _ _ ⟨_, rfl, Only.refl _ _, rfl⟩
    · intro vals wr hR hp K hK
      dsimp only at hK ⊢
      obtain ⟨p12, -⟩ := hp
      replace p12 := p12 rfl
      dsimp only at p12
      rw [p12] at hK ⊢
      clear p12
      unfold RunsOp
      have k0 := (hR.cell (p := ⟨g, 1, none⟩) HG.out.2.2 (by simp)).trans HG.out.2.1
      go_simp
      exact hK.out _ _ ⟨_, rfl, Only.refl _ _, rfl⟩
    · intro vals wr hR hp K hK
      dsimp only at hK ⊢
      clear hp
      unfold RunsOp
      have k0 := (hR.cell (p := ⟨w.heap.size, 0, none⟩) HBX.out.2.2 (by simp)).trans HBX.out.1
      have k1 := (hR.cell (p := ⟨w.heap.size, 1, none⟩) HBX.out.2.2 (by simp)).trans HBX.out.2.1
      go_simp
      exact hK.out _ _ ⟨_, rfl, Only.refl _ _, rfl⟩
    · intro vals wr hR hp K hK
      dsimp only at hK ⊢
      clear hp
      unfold RunsOp
      go_simp
      exact hK.out _ _ ⟨_, rfl, Only.refl _ _, rfl⟩
    · intro vals wr hR hp K hK
      dsimp only at hK ⊢
      obtain ⟨p15, -⟩ := hp
      replace p15 := p15 rfl
      dsimp only at p15
      rw [p15] at hK ⊢
      clear p15
      unfold RunsOp
      go_simp
      exact hK.out _ _ ⟨_, rfl, Only.refl _ _, rfl⟩
    · intro vals wr hR hp K hK
      dsimp only at hK ⊢
      obtain ⟨p16, -⟩ := hp
      replace p16 := p16 rfl
      dsimp only at p16
      rw [p16] at hK ⊢
      clear p16
      unfold RunsOp
      go_simp
      exact hK.out _ _ ⟨_, rfl, Only.refl _ _, rfl⟩
    · intro vals wr hR hp K hK
      dsimp only at hK ⊢
      obtain ⟨p17, -⟩ := hp
      replace p17 := p17 rfl
      dsimp only at p17
      rw [p17] at hK ⊢
      clear p17
      unfold RunsOp
      have k0 := (hR.cell (p := ⟨g, 0, none⟩) HG.out.2.2 (by simp)).trans HG.out.1
      go_simp
      exact hK.out _ _ ⟨_, rfl, Only.refl _ _, rfl⟩
    · intro vals wr hR hp K hK
      dsimp only at hK ⊢
      obtain ⟨p13, p14, p18, -, -⟩ := hp
      replace p13 := p13 rfl
      replace p14 := p14 rfl
      replace p18 := p18 rfl
      dsimp only at p13 p14 p18
      rw [p13, p14, p18] at hK ⊢
      clear p13 p14 p18
      unfold RunsOp
      go_simp
      refine (HQ.out _ ((Only.refl [] _).drew.trans hR (by simp))).mono ?_
      rintro e' w2 ⟨rfl, o2⟩
      exact hK.out _ _ ⟨_, rfl, o2, rfl⟩
    · intro vals wr hR hp K hK
      dsimp only at hK ⊢
      obtain ⟨p9, p19, -⟩ := hp
      replace p9 := p9 rfl
      replace p19 := p19 rfl
      dsimp only at p9 p19
      rw [p9, p19] at hK ⊢
      clear p9 p19
      unfold RunsOp
      have hwr : IntKind.i64.wrap ((p : Int) - (q : Int)) = (p : Int) - (q : Int) := IntWalk.i64_in _ (by omega)
      go_simp
      exact hK.out _ _ ⟨_, rfl, Only.refl _ _, rfl⟩
    · intro vals wr hR hp K hK
      dsimp only at hK ⊢
      obtain ⟨p20, -, -, -, -, -, -, -, -, -, -, -, -, -, -, -, -, -, -, -, -, -, -, -⟩ := hp
      replace p20 := p20 rfl
      dsimp only at p20
      rw [p20] at hK ⊢
      clear p20
      unfold RunsOp
      go_simp
      exact hK.out _ _ ⟨_, rfl, Only.refl _ _, rfl⟩
  case doneg =>
    intro vals wd hR hF
    have f21 : vals 21 = .int .i64 ((p : Int) - (q : Int)) := hF 21 (by decide)
    rw [f21]
    clear f21
    have HOd := Lib.hid (H0.out.trans ((Only.refl [] (w.alloc (.cells #[.int .i64 x.1, .int .i64 x.2] 49))).drew.trans hR (by simp)) (by simp))
    clear hR hF g0 g1 gl
    gi_wp2_with (fail)
    go_wp2_with (fail)
    go_ret
    exact ⟨rfl, HOd.out⟩
end Go.Proofs.Ytpedlapemgjgaaa
