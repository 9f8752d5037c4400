/- Drop. -/
import Derived.Test.YtpedlapemgjgaaaCount
import Derived.Test.YtpedlapemgjgaaaDropLaw
namespace Go.Proofs.Ytpedlapemgjgaaa
open Go.RowKit Go.Kx Go.Bag
set_option maxRecDepth 100000
theorem take_succ_of {α : Type} {L : List α} {i : Nat} {y : α} (h : L[i]? = some y) : L.take (i + 1) = L.take i ++ [y] := by rw [List.take_add_one, h]; rfl
set_option maxHeartbeats 4000000 in
theorem dropendI {B : Nat} {w : World} {g : Nat} {L : List Int} {A : Option Addr} {c : Nat} (hT : BBI B w g L A c) (x : Int) (hn : L.length ≤ 1000000) (hi : aheadB keyI L (keyI x) = L.length) :
    Calls Try.prog 19 #[.pointer (some ⟨g, 0, none⟩), .int .i64 x] w fun e w' => e = .returned (.bool false) ∧ Only [] w w' := by
  have h0 : Only [] w (w) := Only.refl _ _
  have hT2 := hT.keep h0
  have HG := Lib.hid hT2.blk.facts2
  have hr := own_rowC (by rw [len_flat1]) hT2.row
  have HP := Lib.hid (fun (W : World) (o : Only [] (w) W) => aheadI (x := x) (c := c) (hr.only o) rfl hn hT.srt)
  rw [hi] at HP
  obtain ⟨g0, g1, gl⟩ := hT.blk.facts2
  generalize L.length = n at *
  clear hT
  skip
  have H0 := Lib.hid h0
  clear hr hT2 h0 hi
  go_enter Try.func19, Try.ntmps19
  go_wp2_with (fail)
  refine (wpIn_wide (n := 9)).1 ?_
  refine wpIn_region_relR 11 (Only []) (fr := ?frg) (tl := ?tlg) (fun iq v wv => match iq with
    | 0 => v = .pointer (some ⟨g, 0, none⟩)
    | 1 => v = .pointer (some ⟨g, 0, none⟩)
    | 2 => v = .pointer (some ⟨g, 1, none⟩)
    | 3 => v = .slice A n c
    | 4 => v = .int .i64 x
    | 5 => v = .pointer (some ⟨g, 0, none⟩)
    | 6 => v = .pointer (some ⟨g, 0, none⟩)
    | 7 => v = .pointer (some ⟨g, 0, none⟩)
    | 8 => v = .func (.func 11) #[] #[]
    | 9 => v = .int .i64 (n : Nat)
    | 10 => v = .int .i64 (n : Nat)
    | _ => True) (.inl rfl) (by kernel_rfl) (by kernel_rfl) (by kernel_rfl) (by kernel_rfl) (by kernel_rfl) (by kernel_rfl) (by decide) ?htlg ?hfrg (Only.refl _ _) (fun _ _ _ h k => h.trans k (fun _ hx => .inl hx)) ?stabg ?stepsg ?doneg
  case htlg => simp only [List.drop_succ_cons, List.drop_zero]; rfl
  case hfrg => intro vals; simp only [putAll, dstAt, Act.put, List.getElem?_toArray, List.getElem?_cons_zero, List.getElem?_cons_succ, Option.bind_some, List.setIfInBounds_toArray, List.set_cons_zero, List.set_cons_succ]; rfl
  case stabg =>
    intro i v wa wb h
    try dsimp only
    split <;> first | exact id
  case stepsg =>
    refine ⟨?_, ?_, ?_, ?_, ?_, ?_, ?_, ?_, ?_, ?_, ?_, trivial⟩
    · intro vals wr hR hp K hK
      dsimp only at hK ⊢
      clear hp
      unfold RunsOp
      go_simp
      exact hK.out _ _ ⟨_, rfl, Only.refl _ _, rfl⟩
    · intro vals wr hR hp K hK
      dsimp only at hK ⊢
      obtain ⟨p0, -⟩ := hp
      replace p0 := p0 rfl
      dsimp only at p0
      rw [p0] at hK ⊢
      clear p0
      unfold RunsOp
      go_simp
      exact hK.out _ _ ⟨_, rfl, Only.refl _ _, rfl⟩
    · intro vals wr hR hp K hK
      dsimp only at hK ⊢
      obtain ⟨p1, -⟩ := hp
      replace p1 := p1 rfl
      dsimp only at p1
      rw [p1] at hK ⊢
      clear p1
      unfold RunsOp
      go_simp
      exact hK.out _ _ ⟨_, rfl, Only.refl _ _, rfl⟩
    · intro vals wr hR hp K hK
      dsimp only at hK ⊢
      obtain ⟨p2, -⟩ := hp
      replace p2 := p2 rfl
      dsimp only at p2
      rw [p2] at hK ⊢
      clear p2
      unfold RunsOp
      have k0 := (hR.cell (p := ⟨g, 1, none⟩) HG.out.2.2 (by simp)).trans HG.out.2.1
      go_simp
      exact hK.out _ _ ⟨_, rfl, Only.refl _ _, rfl⟩
    · intro vals wr hR hp K hK
      dsimp only at hK ⊢
      clear hp
      unfold RunsOp
      go_simp
      exact hK.out _ _ ⟨_, rfl, Only.refl _ _, rfl⟩
    · intro vals wr hR hp K hK
      dsimp only at hK ⊢
      clear hp
      unfold RunsOp
      go_simp
      exact hK.out _ _ ⟨_, rfl, Only.refl _ _, rfl⟩
    · intro vals wr hR hp K hK
      dsimp only at hK ⊢
      obtain ⟨p5, -⟩ := hp
      replace p5 := p5 rfl
      dsimp only at p5
      rw [p5] at hK ⊢
      clear p5
      unfold RunsOp
      go_simp
      exact hK.out _ _ ⟨_, rfl, Only.refl _ _, rfl⟩
    · intro vals wr hR hp K hK
      dsimp only at hK ⊢
      obtain ⟨p6, -⟩ := hp
      replace p6 := p6 rfl
      dsimp only at p6
      rw [p6] at hK ⊢
      clear p6
      unfold RunsOp
      go_simp
      exact hK.out _ _ ⟨_, rfl, Only.refl _ _, rfl⟩
    · intro vals wr hR hp K hK
      dsimp only at hK ⊢
      obtain ⟨p7, -⟩ := hp
      replace p7 := p7 rfl
      dsimp only at p7
      rw [p7] at hK ⊢
      clear p7
      unfold RunsOp
      have k0 := (hR.cell (p := ⟨g, 0, none⟩) HG.out.2.2 (by simp)).trans HG.out.1
      go_simp
      exact hK.out _ _ ⟨_, rfl, Only.refl _ _, rfl⟩
    · intro vals wr hR hp K hK
      dsimp only at hK ⊢
      obtain ⟨p3, p4, p8, -⟩ := hp
      replace p3 := p3 rfl
      replace p4 := p4 rfl
      replace p8 := p8 rfl
      dsimp only at p3 p4 p8
      rw [p3, p4, p8] at hK ⊢
      clear p3 p4 p8
      unfold RunsOp
      go_simp
      refine (HP.out _ ((Only.refl [] _).drew.trans hR (by simp))).mono ?_
      rintro e' w2 ⟨rfl, o2⟩
      exact hK.out _ _ ⟨_, rfl, o2, rfl⟩
    · intro vals wr hR hp K hK
      dsimp only at hK ⊢
      obtain ⟨p9, -, -, -, -, -, -, -, -, -, -, -, -⟩ := hp
      replace p9 := p9 rfl
      dsimp only at p9
      rw [p9] at hK ⊢
      clear p9
      unfold RunsOp
      go_simp
      exact hK.out _ _ ⟨_, rfl, Only.refl _ _, rfl⟩
  case doneg =>
    intro vals wd hR hF
    have f10 : vals 10 = .int .i64 (n : Nat) := hF 10 (by decide)
    rw [f10]
    clear f10
    have HOd := Lib.hid (((Only.refl [] (w)).drew.trans hR (by simp)))
    have k0 := (hR.cell (p := ⟨g, 0, none⟩) HG.out.2.2 (by simp)).trans HG.out.1
    have k1 := (hR.cell (p := ⟨g, 1, none⟩) HG.out.2.2 (by simp)).trans HG.out.2.1
    have HK := Lib.hid (And.intro k0 (And.intro k1 (Nat.lt_of_lt_of_le HG.out.2.2 HOd.out.size)))
    clear hR hF g0 g1 gl
    obtain ⟨wq, rfl⟩ : ∃ wq : World, wq = wd := ⟨_, rfl⟩
    skip
    gi_wp2_with (fail)
    go_wp2_with (fail)
    clear k0 k1
    refine (wpIn_wide (n := 9)).1 ?_
    refine wpIn_region_relR 22 (Only []) (fr := ?frh) (tl := ?tlh) (fun iq v wv => match iq with
      | 0 => v = .int .i64 (n : Nat)
      | 1 => v = .pointer (some ⟨g, 0, none⟩)
      | 2 => v = .pointer (some ⟨g, 0, none⟩)
      | 3 => v = .pointer (some ⟨g, 1, none⟩)
      | 4 => v = .slice A n c
      | 5 => v = .int .i64 (n : Nat)
      | 6 => v = .bool true
      | 7 => v = .bool true
      | 8 => v = undef
      | 9 => v = undef
      | 10 => v = undef
      | 11 => v = undef
      | 12 => v = undef
      | 13 => v = undef
      | 14 => v = undef
      | 15 => v = undef
      | 16 => v = undef
      | 17 => v = undef
      | 18 => v = undef
      | 19 => v = undef
      | 20 => v = undef
      | 21 => v = undef
      | _ => True) (.inl rfl) (by kernel_rfl) (by kernel_rfl) (by kernel_rfl) (by kernel_rfl) (by kernel_rfl) (by kernel_rfl) (by decide) ?htlh ?hfrh (Only.refl _ _) (fun _ _ _ h k => h.trans k (fun _ hx => .inl hx)) ?stabh ?stepsh ?doneh
    case htlh => simp only [List.drop_succ_cons, List.drop_zero]; rfl
    case hfrh => intro vals; simp only [putAll, dstAt, Act.put, List.getElem?_toArray, List.getElem?_cons_zero, List.getElem?_cons_succ, Option.bind_some, List.setIfInBounds_toArray, List.set_cons_zero, List.set_cons_succ]; rfl
    case stabh =>
      intro i v wa wb h
      try dsimp only
      split <;> first | exact id
    case stepsh =>
      refine ⟨?_, ?_, ?_, ?_, ?_, ?_, ?_, ?_, ?_, ?_, ?_, ?_, ?_, ?_, ?_, ?_, ?_, ?_, ?_, ?_, ?_, ?_, trivial⟩
      · intro vals wr hR hp K hK
        dsimp only at hK ⊢
        clear hp
        unfold RunsOp
        go_simp
        exact hK.out _ _ ⟨_, rfl, Only.refl _ _, rfl⟩
      · intro vals wr hR hp K hK
        dsimp only at hK ⊢
        clear hp
        unfold RunsOp
        go_simp
        exact hK.out _ _ ⟨_, rfl, Only.refl _ _, rfl⟩
      · intro vals wr hR hp K hK
        dsimp only at hK ⊢
        obtain ⟨p1, -⟩ := hp
        replace p1 := p1 rfl
        dsimp only at p1
        rw [p1] at hK ⊢
        clear p1
        unfold RunsOp
        go_simp
        exact hK.out _ _ ⟨_, rfl, Only.refl _ _, rfl⟩
      · intro vals wr hR hp K hK
        dsimp only at hK ⊢
        obtain ⟨p2, -⟩ := hp
        replace p2 := p2 rfl
        dsimp only at p2
        rw [p2] at hK ⊢
        clear p2
        unfold RunsOp
        go_simp
        exact hK.out _ _ ⟨_, rfl, Only.refl _ _, rfl⟩
      · intro vals wr hR hp K hK
        dsimp only at hK ⊢
        obtain ⟨p3, -⟩ := hp
        replace p3 := p3 rfl
        dsimp only at p3
        rw [p3] at hK ⊢
        clear p3
        unfold RunsOp
        have k0 := (hR.cell (p := ⟨g, 1, none⟩) HK.out.2.2 (by simp)).trans HK.out.2.1
        go_simp
        exact hK.out _ _ ⟨_, rfl, Only.refl _ _, rfl⟩
      · intro vals wr hR hp K hK
        dsimp only at hK ⊢
        obtain ⟨p4, -⟩ := hp
        replace p4 := p4 rfl
        dsimp only at p4
        rw [p4] at hK ⊢
        clear p4
        unfold RunsOp
        go_simp
        exact hK.out _ _ ⟨_, rfl, Only.refl _ _, rfl⟩
      · intro vals wr hR hp K hK
        dsimp only at hK ⊢
        obtain ⟨p0, p5, -⟩ := hp
        replace p0 := p0 rfl
        replace p5 := p5 rfl
        dsimp only at p0 p5
        rw [p0, p5] at hK ⊢
        clear p0 p5
        unfold RunsOp
        go_simp
        exact hK.out _ _ ⟨_, rfl, Only.refl _ _, rfl⟩
      · intro vals wr hR hp K hK
        dsimp only at hK ⊢
        obtain ⟨p6, -⟩ := hp
        replace p6 := p6 rfl
        dsimp only at p6
        rw [p6] at hK ⊢
        clear p6
        unfold RunsOp
        go_simp
        exact hK.out _ _ ⟨_, rfl, Only.refl _ _, rfl⟩
      · intro vals wr hR hp K hK
        dsimp only at hK ⊢
        obtain ⟨p7, -⟩ := hp
        replace p7 := p7 rfl
        dsimp only at p7
        rw [p7] at hK ⊢
        clear p7
        unfold RunsOp
        go_simp
        exact hK.out _ _ ⟨_, rfl, Only.refl _ _, rfl⟩
      · intro vals wr hR hp K hK
        dsimp only at hK ⊢
        obtain ⟨p8, p7, -⟩ := hp
        replace p8 := p8 rfl
        replace p7 := p7 rfl
        dsimp only at p8 p7
        rw [p8, p7] at hK ⊢
        clear p8 p7
        unfold RunsOp
        go_simp
        exact hK.out _ _ ⟨_, rfl, Only.refl _ _, rfl⟩
      · intro vals wr hR hp K hK
        dsimp only at hK ⊢
        obtain ⟨p9, p7, -⟩ := hp
        replace p9 := p9 rfl
        replace p7 := p7 rfl
        dsimp only at p9 p7
        rw [p9, p7] at hK ⊢
        clear p9 p7
        unfold RunsOp
        go_simp
        exact hK.out _ _ ⟨_, rfl, Only.refl _ _, rfl⟩
      · intro vals wr hR hp K hK
        dsimp only at hK ⊢
        obtain ⟨p10, p7, -⟩ := hp
        replace p10 := p10 rfl
        replace p7 := p7 rfl
        dsimp only at p10 p7
        rw [p10, p7] at hK ⊢
        clear p10 p7
        unfold RunsOp
        go_simp
        exact hK.out _ _ ⟨_, rfl, Only.refl _ _, rfl⟩
      · intro vals wr hR hp K hK
        dsimp only at hK ⊢
        obtain ⟨p7, -⟩ := hp
        replace p7 := p7 rfl
        dsimp only at p7
        rw [p7] at hK ⊢
        clear p7
        unfold RunsOp
        go_simp
        exact hK.out _ _ ⟨_, rfl, Only.refl _ _, rfl⟩
      · intro vals wr hR hp K hK
        dsimp only at hK ⊢
        obtain ⟨p12, p7, -⟩ := hp
        replace p12 := p12 rfl
        replace p7 := p7 rfl
        dsimp only at p12 p7
        rw [p12, p7] at hK ⊢
        clear p12 p7
        unfold RunsOp
        go_simp
        exact hK.out _ _ ⟨_, rfl, Only.refl _ _, rfl⟩
      · intro vals wr hR hp K hK
        dsimp only at hK ⊢
        obtain ⟨p13, p7, -⟩ := hp
        replace p13 := p13 rfl
        replace p7 := p7 rfl
        dsimp only at p13 p7
        rw [p13, p7] at hK ⊢
        clear p13 p7
        unfold RunsOp
        go_simp
        exact hK.out _ _ ⟨_, rfl, Only.refl _ _, rfl⟩
      · intro vals wr hR hp K hK
        dsimp only at hK ⊢
        obtain ⟨p14, p7, -⟩ := hp
        replace p14 := p14 rfl
        replace p7 := p7 rfl
        dsimp only at p14 p7
        rw [p14, p7] at hK ⊢
        clear p14 p7
        unfold RunsOp
        go_simp
        exact hK.out _ _ ⟨_, rfl, Only.refl _ _, rfl⟩
      · intro vals wr hR hp K hK
        dsimp only at hK ⊢
        obtain ⟨p7, -⟩ := hp
        replace p7 := p7 rfl
        dsimp only at p7
        rw [p7] at hK ⊢
        clear p7
        unfold RunsOp
        go_simp
        exact hK.out _ _ ⟨_, rfl, Only.refl _ _, rfl⟩
      · intro vals wr hR hp K hK
        dsimp only at hK ⊢
        obtain ⟨p15, p16, p7, -⟩ := hp
        replace p15 := p15 rfl
        replace p16 := p16 rfl
        replace p7 := p7 rfl
        dsimp only at p15 p16 p7
        rw [p15, p16, p7] at hK ⊢
        clear p15 p16 p7
        unfold RunsOp
        go_simp
        exact hK.out _ _ ⟨_, rfl, Only.refl _ _, rfl⟩
      · intro vals wr hR hp K hK
        dsimp only at hK ⊢
        obtain ⟨p17, p7, -⟩ := hp
        replace p17 := p17 rfl
        replace p7 := p7 rfl
        dsimp only at p17 p7
        rw [p17, p7] at hK ⊢
        clear p17 p7
        unfold RunsOp
        go_simp
        exact hK.out _ _ ⟨_, rfl, Only.refl _ _, rfl⟩
      · intro vals wr hR hp K hK
        dsimp only at hK ⊢
        obtain ⟨p7, -⟩ := hp
        replace p7 := p7 rfl
        dsimp only at p7
        rw [p7] at hK ⊢
        clear p7
        unfold RunsOp
        go_simp
        exact hK.out _ _ ⟨_, rfl, Only.refl _ _, rfl⟩
      · intro vals wr hR hp K hK
        dsimp only at hK ⊢
        obtain ⟨p11, p18, p19, p7, -, -⟩ := hp
        replace p11 := p11 rfl
        replace p18 := p18 rfl
        replace p19 := p19 rfl
        replace p7 := p7 rfl
        dsimp only at p11 p18 p19 p7
        rw [p11, p18, p19, p7] at hK ⊢
        clear p11 p18 p19 p7
        unfold RunsOp
        go_simp
        exact hK.out _ _ ⟨_, rfl, Only.refl _ _, rfl⟩
      · intro vals wr hR hp K hK
        dsimp only at hK ⊢
        obtain ⟨p20, p7, -⟩ := hp
        replace p20 := p20 rfl
        replace p7 := p7 rfl
        dsimp only at p20 p7
        rw [p20, p7] at hK ⊢
        clear p20 p7
        unfold RunsOp
        go_simp
        exact hK.out _ _ ⟨_, rfl, Only.refl _ _, rfl⟩
    case doneh =>
      intro vals wd hR hF
      have f7 : vals 7 = .bool true := hF 7 (by decide)
      have f21 : vals 21 = undef := hF 21 (by decide)
      rw [f7, f21]
      clear f7 f21
      have HO4 := Lib.hid (H0.out.trans (HOd.out.trans ((Only.refl [] wq).drew.trans hR (by simp)) (by simp)) (by simp))
      clear hR hF
      gi_wp2_with (fail)
      go_wp2_with (fail)
      go_ret
      exact ⟨rfl, HO4.out⟩
set_option maxHeartbeats 4000000 in
theorem dropnoI {B : Nat} {w : World} {g : Nat} {L : List Int} {A : Option Addr} {c : Nat} (hT : BBI B w g L A c) (x : Int) (hn : L.length ≤ 1000000) {i : Nat} {y : Int} (hi : aheadB keyI L (keyI x) = i) (hy : L[i]? = some y) (hne : keyI y ≠ keyI x) :
    Calls Try.prog 19 #[.pointer (some ⟨g, 0, none⟩), .int .i64 x] w fun e w' => e = .returned (.bool false) ∧ Only [] w w' := by
  have hil : i < L.length := (List.getElem?_eq_some_iff.1 hy).1
  obtain ⟨b, hA, hb, -, c0⟩ := own_cell1 rfl hT.row hy
  have HC := Lib.hid (And.intro hb c0)
  clear c0
  subst hA
  have h0 : Only [] w (w) := Only.refl _ _
  have hT2 := hT.keep h0
  have HG := Lib.hid hT2.blk.facts2
  have hr := own_rowC (by rw [len_flat1]) hT2.row
  have HP := Lib.hid (fun (W : World) (o : Only [] (w) W) => aheadI (x := x) (c := c) (hr.only o) rfl hn hT.srt)
  rw [hi] at HP
  obtain ⟨g0, g1, gl⟩ := hT.blk.facts2
  generalize L.length = n at *
  clear hT hy
  have hcz : (cmpZ (keyI y) (keyI x) != 0) = true := by
    unfold cmpZ
    split
    · rfl
    · split
      · rfl
      · exact absurd (by omega) hne
  skip
  have H0 := Lib.hid h0
  clear hr hT2 h0 hi
  go_enter Try.func19, Try.ntmps19
  go_wp2_with (fail)
  refine (wpIn_wide (n := 9)).1 ?_
  refine wpIn_region_relR 11 (Only []) (fr := ?frg) (tl := ?tlg) (fun iq v wv => match iq with
    | 0 => v = .pointer (some ⟨g, 0, none⟩)
    | 1 => v = .pointer (some ⟨g, 0, none⟩)
    | 2 => v = .pointer (some ⟨g, 1, none⟩)
    | 3 => v = .slice (some ⟨b, 0, none⟩) n c
    | 4 => v = .int .i64 x
    | 5 => v = .pointer (some ⟨g, 0, none⟩)
    | 6 => v = .pointer (some ⟨g, 0, none⟩)
    | 7 => v = .pointer (some ⟨g, 0, none⟩)
    | 8 => v = .func (.func 11) #[] #[]
    | 9 => v = .int .i64 (i : Nat)
    | 10 => v = .int .i64 (i : Nat)
    | _ => True) (.inl rfl) (by kernel_rfl) (by kernel_rfl) (by kernel_rfl) (by kernel_rfl) (by kernel_rfl) (by kernel_rfl) (by decide) ?htlg ?hfrg (Only.refl _ _) (fun _ _ _ h k => h.trans k (fun _ hx => .inl hx)) ?stabg ?stepsg ?doneg
  case htlg => simp only [List.drop_succ_cons, List.drop_zero]; rfl
  case hfrg => intro vals; simp only [putAll, dstAt, Act.put, List.getElem?_toArray, List.getElem?_cons_zero, List.getElem?_cons_succ, Option.bind_some, List.setIfInBounds_toArray, List.set_cons_zero, List.set_cons_succ]; rfl
  case stabg =>
    intro i v wa wb h
    try dsimp only
    split <;> first | exact id
  case stepsg =>
    refine ⟨?_, ?_, ?_, ?_, ?_, ?_, ?_, ?_, ?_, ?_, ?_, trivial⟩
    · intro vals wr hR hp K hK
      dsimp only at hK ⊢
      clear hp
      unfold RunsOp
      go_simp
      exact hK.out _ _ ⟨_, rfl, Only.refl _ _, rfl⟩
    · intro vals wr hR hp K hK
      dsimp only at hK ⊢
      obtain ⟨p0, -⟩ := hp
      replace p0 := p0 rfl
      dsimp only at p0
      rw [p0] at hK ⊢
      clear p0
      unfold RunsOp
      go_simp
      exact hK.out _ _ ⟨_, rfl, Only.refl _ _, rfl⟩
    · intro vals wr hR hp K hK
      dsimp only at hK ⊢
      obtain ⟨p1, -⟩ := hp
      replace p1 := p1 rfl
      dsimp only at p1
      rw [p1] at hK ⊢
      clear p1
      unfold RunsOp
      go_simp
      exact hK.out _ _ ⟨_, rfl, Only.refl _ _, rfl⟩
    · intro vals wr hR hp K hK
      dsimp only at hK ⊢
      obtain ⟨p2, -⟩ := hp
      replace p2 := p2 rfl
      dsimp only at p2
      rw [p2] at hK ⊢
      clear p2
      unfold RunsOp
      have k0 := (hR.cell (p := ⟨g, 1, none⟩) HG.out.2.2 (by simp)).trans HG.out.2.1
      go_simp
      exact hK.out _ _ ⟨_, rfl, Only.refl _ _, rfl⟩
    · intro vals wr hR hp K hK
      dsimp only at hK ⊢
      clear hp
      unfold RunsOp
      go_simp
      exact hK.out _ _ ⟨_, rfl, Only.refl _ _, rfl⟩
    · intro vals wr hR hp K hK
      dsimp only at hK ⊢
      clear hp
      unfold RunsOp
      go_simp
      exact hK.out _ _ ⟨_, rfl, Only.refl _ _, rfl⟩
    · intro vals wr hR hp K hK
      dsimp only at hK ⊢
      obtain ⟨p5, -⟩ := hp
      replace p5 := p5 rfl
      dsimp only at p5
      rw [p5] at hK ⊢
      clear p5
      unfold RunsOp
      go_simp
      exact hK.out _ _ ⟨_, rfl, Only.refl _ _, rfl⟩
    · intro vals wr hR hp K hK
      dsimp only at hK ⊢
      obtain ⟨p6, -⟩ := hp
      replace p6 := p6 rfl
      dsimp only at p6
      rw [p6] at hK ⊢
      clear p6
      unfold RunsOp
      go_simp
      exact hK.out _ _ ⟨_, rfl, Only.refl _ _, rfl⟩
    · intro vals wr hR hp K hK
      dsimp only at hK ⊢
      obtain ⟨p7, -⟩ := hp
      replace p7 := p7 rfl
      dsimp only at p7
      rw [p7] at hK ⊢
      clear p7
      unfold RunsOp
      have k0 := (hR.cell (p := ⟨g, 0, none⟩) HG.out.2.2 (by simp)).trans HG.out.1
      go_simp
      exact hK.out _ _ ⟨_, rfl, Only.refl _ _, rfl⟩
    · intro vals wr hR hp K hK
      dsimp only at hK ⊢
      obtain ⟨p3, p4, p8, -⟩ := hp
      replace p3 := p3 rfl
      replace p4 := p4 rfl
      replace p8 := p8 rfl
      dsimp only at p3 p4 p8
      rw [p3, p4, p8] at hK ⊢
      clear p3 p4 p8
      unfold RunsOp
      go_simp
      refine (HP.out _ ((Only.refl [] _).drew.trans hR (by simp))).mono ?_
      rintro e' w2 ⟨rfl, o2⟩
      exact hK.out _ _ ⟨_, rfl, o2, rfl⟩
    · intro vals wr hR hp K hK
      dsimp only at hK ⊢
      obtain ⟨p9, -, -, -, -, -, -, -, -, -, -, -, -⟩ := hp
      replace p9 := p9 rfl
      dsimp only at p9
      rw [p9] at hK ⊢
      clear p9
      unfold RunsOp
      go_simp
      exact hK.out _ _ ⟨_, rfl, Only.refl _ _, rfl⟩
  case doneg =>
    intro vals wd hR hF
    have f10 : vals 10 = .int .i64 (i : Nat) := hF 10 (by decide)
    rw [f10]
    clear f10
    have HOd := Lib.hid (((Only.refl [] (w)).drew.trans hR (by simp)))
    have k0 := (hR.cell (p := ⟨g, 0, none⟩) HG.out.2.2 (by simp)).trans HG.out.1
    have k1 := (hR.cell (p := ⟨g, 1, none⟩) HG.out.2.2 (by simp)).trans HG.out.2.1
    have HK := Lib.hid (And.intro k0 (And.intro k1 (Nat.lt_of_lt_of_le HG.out.2.2 HOd.out.size)))
    clear hR hF g0 g1 gl
    obtain ⟨wq, rfl⟩ : ∃ wq : World, wq = wd := ⟨_, rfl⟩
    skip
    gi_wp2_with (fail)
    go_wp2_with (fail)
    clear k0 k1
    refine (wpIn_wide (n := 9)).1 ?_
    refine wpIn_region_relR 22 (Only []) (fr := ?frh) (tl := ?tlh) (fun iq v wv => match iq with
      | 0 => v = .int .i64 (i : Nat)
      | 1 => v = .pointer (some ⟨g, 0, none⟩)
      | 2 => v = .pointer (some ⟨g, 0, none⟩)
      | 3 => v = .pointer (some ⟨g, 1, none⟩)
      | 4 => v = .slice (some ⟨b, 0, none⟩) n c
      | 5 => v = .int .i64 (n : Nat)
      | 6 => v = .bool false
      | 7 => v = .bool false
      | 8 => v = .pointer (some ⟨g, 0, none⟩)
      | 9 => v = .pointer (some ⟨g, 0, none⟩)
      | 10 => v = .pointer (some ⟨g, 0, none⟩)
      | 11 => v = .func (.func 11) #[] #[]
      | 12 => v = .pointer (some ⟨g, 0, none⟩)
      | 13 => v = .pointer (some ⟨g, 0, none⟩)
      | 14 => v = .pointer (some ⟨g, 1, none⟩)
      | 15 => v = .slice (some ⟨b, 0, none⟩) n c
      | 16 => v = .int .i64 (i : Nat)
      | 17 => v = .pointer (some ⟨b, i, none⟩)
      | 18 => v = .int .i64 y
      | 19 => v = .int .i64 x
      | 20 => v = .int .i64 (cmpZ (keyI y) (keyI x))
      | 21 => v = .bool true
      | _ => True) (.inl rfl) (by kernel_rfl) (by kernel_rfl) (by kernel_rfl) (by kernel_rfl) (by kernel_rfl) (by kernel_rfl) (by decide) ?htlh ?hfrh (Only.refl _ _) (fun _ _ _ h k => h.trans k (fun _ hx => .inl hx)) ?stabh ?stepsh ?doneh
    case htlh => simp only [List.drop_succ_cons, List.drop_zero]; rfl
    case hfrh => intro vals; simp only [putAll, dstAt, Act.put, List.getElem?_toArray, List.getElem?_cons_zero, List.getElem?_cons_succ, Option.bind_some, List.setIfInBounds_toArray, List.set_cons_zero, List.set_cons_succ]; rfl
    case stabh =>
      intro i v wa wb h
      try dsimp only
      split <;> first | exact id
    case stepsh =>
      refine ⟨?_, ?_, ?_, ?_, ?_, ?_, ?_, ?_, ?_, ?_, ?_, ?_, ?_, ?_, ?_, ?_, ?_, ?_, ?_, ?_, ?_, ?_, trivial⟩
      · intro vals wr hR hp K hK
        dsimp only at hK ⊢
        clear hp
        unfold RunsOp
        go_simp
        exact hK.out _ _ ⟨_, rfl, Only.refl _ _, rfl⟩
      · intro vals wr hR hp K hK
        dsimp only at hK ⊢
        clear hp
        unfold RunsOp
        go_simp
        exact hK.out _ _ ⟨_, rfl, Only.refl _ _, rfl⟩
      · intro vals wr hR hp K hK
        dsimp only at hK ⊢
        obtain ⟨p1, -⟩ := hp
        replace p1 := p1 rfl
        dsimp only at p1
        rw [p1] at hK ⊢
        clear p1
        unfold RunsOp
        go_simp
        exact hK.out _ _ ⟨_, rfl, Only.refl _ _, rfl⟩
      · intro vals wr hR hp K hK
        dsimp only at hK ⊢
        obtain ⟨p2, -⟩ := hp
        replace p2 := p2 rfl
        dsimp only at p2
        rw [p2] at hK ⊢
        clear p2
        unfold RunsOp
        go_simp
        exact hK.out _ _ ⟨_, rfl, Only.refl _ _, rfl⟩
      · intro vals wr hR hp K hK
        dsimp only at hK ⊢
        obtain ⟨p3, -⟩ := hp
        replace p3 := p3 rfl
        dsimp only at p3
        rw [p3] at hK ⊢
        clear p3
        unfold RunsOp
        have k0 := (hR.cell (p := ⟨g, 1, none⟩) HK.out.2.2 (by simp)).trans HK.out.2.1
        go_simp
        exact hK.out _ _ ⟨_, rfl, Only.refl _ _, rfl⟩
      · intro vals wr hR hp K hK
        dsimp only at hK ⊢
        obtain ⟨p4, -⟩ := hp
        replace p4 := p4 rfl
        dsimp only at p4
        rw [p4] at hK ⊢
        clear p4
        unfold RunsOp
        go_simp
        exact hK.out _ _ ⟨_, rfl, Only.refl _ _, rfl⟩
      · intro vals wr hR hp K hK
        dsimp only at hK ⊢
        obtain ⟨p0, p5, -⟩ := hp
        replace p0 := p0 rfl
        replace p5 := p5 rfl
        dsimp only at p0 p5
        rw [p0, p5] at hK ⊢
        clear p0 p5
        unfold RunsOp
        have hb : (((i : Nat) : Int) == ((n : Nat) : Int)) = false := beq_eq_false_iff_ne.2 (by omega)
        go_simp
        exact hK.out _ _ ⟨_, rfl, Only.refl _ _, rfl⟩
      · intro vals wr hR hp K hK
        dsimp only at hK ⊢
        obtain ⟨p6, -⟩ := hp
        replace p6 := p6 rfl
        dsimp only at p6
        rw [p6] at hK ⊢
        clear p6
        unfold RunsOp
        go_simp
        exact hK.out _ _ ⟨_, rfl, Only.refl _ _, rfl⟩
      · intro vals wr hR hp K hK
        dsimp only at hK ⊢
        obtain ⟨p7, -⟩ := hp
        replace p7 := p7 rfl
        dsimp only at p7
        rw [p7] at hK ⊢
        clear p7
        unfold RunsOp
        go_simp
        exact hK.out _ _ ⟨_, rfl, Only.refl _ _, rfl⟩
      · intro vals wr hR hp K hK
        dsimp only at hK ⊢
        obtain ⟨p8, p7, -⟩ := hp
        replace p8 := p8 rfl
        replace p7 := p7 rfl
        dsimp only at p8 p7
        rw [p8, p7] at hK ⊢
        clear p8 p7
        unfold RunsOp
        go_simp
        exact hK.out _ _ ⟨_, rfl, Only.refl _ _, rfl⟩
      · intro vals wr hR hp K hK
        dsimp only at hK ⊢
        obtain ⟨p9, p7, -⟩ := hp
        replace p9 := p9 rfl
        replace p7 := p7 rfl
        dsimp only at p9 p7
        rw [p9, p7] at hK ⊢
        clear p9 p7
        unfold RunsOp
        go_simp
        exact hK.out _ _ ⟨_, rfl, Only.refl _ _, rfl⟩
      · intro vals wr hR hp K hK
        dsimp only at hK ⊢
        obtain ⟨p10, p7, -⟩ := hp
        replace p10 := p10 rfl
        replace p7 := p7 rfl
        dsimp only at p10 p7
        rw [p10, p7] at hK ⊢
        clear p10 p7
        unfold RunsOp
        have k0 := (hR.cell (p := ⟨g, 0, none⟩) HK.out.2.2 (by simp)).trans HK.out.1
        go_simp
        exact hK.out _ _ ⟨_, rfl, Only.refl _ _, rfl⟩
      · intro vals wr hR hp K hK
        dsimp only at hK ⊢
        obtain ⟨p7, -⟩ := hp
        replace p7 := p7 rfl
        dsimp only at p7
        rw [p7] at hK ⊢
        clear p7
        unfold RunsOp
        go_simp
        exact hK.out _ _ ⟨_, rfl, Only.refl _ _, rfl⟩
      · intro vals wr hR hp K hK
        dsimp only at hK ⊢
        obtain ⟨p12, p7, -⟩ := hp
        replace p12 := p12 rfl
        replace p7 := p7 rfl
        dsimp only at p12 p7
        rw [p12, p7] at hK ⊢
        clear p12 p7
        unfold RunsOp
        go_simp
        exact hK.out _ _ ⟨_, rfl, Only.refl _ _, rfl⟩
      · intro vals wr hR hp K hK
        dsimp only at hK ⊢
        obtain ⟨p13, p7, -⟩ := hp
        replace p13 := p13 rfl
        replace p7 := p7 rfl
        dsimp only at p13 p7
        rw [p13, p7] at hK ⊢
        clear p13 p7
        unfold RunsOp
        go_simp
        exact hK.out _ _ ⟨_, rfl, Only.refl _ _, rfl⟩
      · intro vals wr hR hp K hK
        dsimp only at hK ⊢
        obtain ⟨p14, p7, -⟩ := hp
        replace p14 := p14 rfl
        replace p7 := p7 rfl
        dsimp only at p14 p7
        rw [p14, p7] at hK ⊢
        clear p14 p7
        unfold RunsOp
        have k0 := (hR.cell (p := ⟨g, 1, none⟩) HK.out.2.2 (by simp)).trans HK.out.2.1
        go_simp
        exact hK.out _ _ ⟨_, rfl, Only.refl _ _, rfl⟩
      · intro vals wr hR hp K hK
        dsimp only at hK ⊢
        obtain ⟨p7, -⟩ := hp
        replace p7 := p7 rfl
        dsimp only at p7
        rw [p7] at hK ⊢
        clear p7
        unfold RunsOp
        go_simp
        exact hK.out _ _ ⟨_, rfl, Only.refl _ _, rfl⟩
      · intro vals wr hR hp K hK
        dsimp only at hK ⊢
        obtain ⟨p15, p16, p7, -⟩ := hp
        replace p15 := p15 rfl
        replace p16 := p16 rfl
        replace p7 := p7 rfl
        dsimp only at p15 p16 p7
        rw [p15, p16, p7] at hK ⊢
        clear p15 p16 p7
        unfold RunsOp
        have i0 : (0 : Int) ≤ (i : Int) := by omega
        have i1 : (i : Int) < (n : Int) := by omega
        go_simp
        exact hK.out _ _ ⟨_, rfl, Only.refl _ _, rfl⟩
      · intro vals wr hR hp K hK
        dsimp only at hK ⊢
        obtain ⟨p17, p7, -⟩ := hp
        replace p17 := p17 rfl
        replace p7 := p7 rfl
        dsimp only at p17 p7
        rw [p17, p7] at hK ⊢
        clear p17 p7
        unfold RunsOp
        have q0 := (hR.cell (p := ⟨b, i, none⟩) (show b < wq.heap.size from Nat.lt_of_lt_of_le HC.out.1 (Nat.le_trans H0.out.size HOd.out.size)) (by simp)).trans ((HOd.out.cell (p := ⟨b, i, none⟩) (show b < _ from Nat.lt_of_lt_of_le HC.out.1 H0.out.size) (by simp)).trans ((H0.out.cell (p := ⟨b, i, none⟩) HC.out.1 (by simp)).trans HC.out.2))
        go_simp
        exact hK.out _ _ ⟨_, rfl, Only.refl _ _, rfl⟩
      · intro vals wr hR hp K hK
        dsimp only at hK ⊢
        obtain ⟨p7, -⟩ := hp
        replace p7 := p7 rfl
        dsimp only at p7
        rw [p7] at hK ⊢
        clear p7
        unfold RunsOp
        go_simp
        exact hK.out _ _ ⟨_, rfl, Only.refl _ _, rfl⟩
      · intro vals wr hR hp K hK
        dsimp only at hK ⊢
        obtain ⟨p11, p18, p19, p7, -, -⟩ := hp
        replace p11 := p11 rfl
        replace p18 := p18 rfl
        replace p19 := p19 rfl
        replace p7 := p7 rfl
        dsimp only at p11 p18 p19 p7
        rw [p11, p18, p19, p7] at hK ⊢
        clear p11 p18 p19 p7
        unfold RunsOp
        go_simp
        refine (order_any y x _).mono ?_
        rintro e' w2 ⟨rfl, o2⟩
        exact hK.out _ _ ⟨_, rfl, o2, rfl⟩
      · intro vals wr hR hp K hK
        dsimp only at hK ⊢
        obtain ⟨p20, p7, -⟩ := hp
        replace p20 := p20 rfl
        replace p7 := p7 rfl
        dsimp only at p20 p7
        rw [p20, p7] at hK ⊢
        clear p20 p7
        unfold RunsOp
        go_simp
        exact hK.out _ _ ⟨_, rfl, Only.refl _ _, rfl⟩
    case doneh =>
      intro vals wd hR hF
      have f7 : vals 7 = .bool false := hF 7 (by decide)
      have f21 : vals 21 = .bool true := hF 21 (by decide)
      rw [f7, f21]
      clear f7 f21
      have HO4 := Lib.hid (H0.out.trans (HOd.out.trans ((Only.refl [] wq).drew.trans hR (by simp)) (by simp)) (by simp))
      clear hR hF
      gi_wp2_with (fail)
      go_wp2_with (fail)
      go_ret
      exact ⟨rfl, HO4.out⟩
set_option maxHeartbeats 4000000 in
theorem dropyesI {B : Nat} {w : World} {g : Nat} {L : List Int} {A : Option Addr} {c : Nat} (hT : BBI B w g L A c) (x : Int) (hn : L.length ≤ 1000000) {i : Nat} {y : Int} (hi : aheadB keyI L (keyI x) = i) (hy : L[i]? = some y) (hne : keyI y = keyI x) (hB : B ≤ w.heap.size) (hci : (c == i + 1) = false) :
    Calls Try.prog 19 #[.pointer (some ⟨g, 0, none⟩), .int .i64 x] w fun e w' => e = .returned (.bool true) ∧ (∃ A' c', BBI B w' g (L.take i ++ L.drop (i + 1)) A' c') ∧ Only [g] w w' := by
  have hil : i < L.length := (List.getElem?_eq_some_iff.1 hy).1
  obtain ⟨b, hA, hb, -, c0⟩ := own_cell1 rfl hT.row hy
  have HC := Lib.hid (And.intro hb c0)
  clear c0
  subst hA
  have hlc : L.length ≤ c := by
    rcases own_form hT.row with ⟨h, _⟩ | ⟨_, h⟩
    · cases h
    · exact h
  have hcn : c ≠ i + 1 := by simpa using hci
  clear hci
  have h0 : Only [] w (w) := Only.refl _ _
  have hT2 := hT.keep h0
  have HG := Lib.hid hT2.blk.facts2
  have hr := own_rowC (by rw [len_flat1]) hT2.row
  have HP := Lib.hid (fun (W : World) (o : Only [] (w) W) => aheadI (x := x) (c := c) (hr.only o) rfl hn hT.srt)
  rw [hi] at HP
  obtain ⟨g0, g1, gl⟩ := hT.blk.facts2
  have HT := Lib.hid (And.intro hT hy)
  have hcz : (cmpZ (keyI y) (keyI x) != 0) = false := by
    have e : cmpZ (keyI y) (keyI x) = 0 := by unfold cmpZ; rw [hne]; simp
    rw [e]; rfl
  have HB := Lib.hid hB
  clear hT hy hB hne
  obtain ⟨n, hL⟩ : ∃ n, L.length = n := ⟨_, rfl⟩
  have HLN := Lib.hid hL
  rw [hL] at HP HG g1 hn hil hlc
  clear hL
  skip
  have H0 := Lib.hid h0
  clear hr hT2 h0 hi
  go_enter Try.func19, Try.ntmps19
  go_wp2_with (fail)
  refine (wpIn_wide (n := 9)).1 ?_
  refine wpIn_region_relR 11 (Only []) (fr := ?frg) (tl := ?tlg) (fun iq v wv => match iq with
    | 0 => v = .pointer (some ⟨g, 0, none⟩)
    | 1 => v = .pointer (some ⟨g, 0, none⟩)
    | 2 => v = .pointer (some ⟨g, 1, none⟩)
    | 3 => v = .slice (some ⟨b, 0, none⟩) n c
    | 4 => v = .int .i64 x
    | 5 => v = .pointer (some ⟨g, 0, none⟩)
    | 6 => v = .pointer (some ⟨g, 0, none⟩)
    | 7 => v = .pointer (some ⟨g, 0, none⟩)
    | 8 => v = .func (.func 11) #[] #[]
    | 9 => v = .int .i64 (i : Nat)
    | 10 => v = .int .i64 (i : Nat)
    | _ => True) (.inl rfl) (by kernel_rfl) (by kernel_rfl) (by kernel_rfl) (by kernel_rfl) (by kernel_rfl) (by kernel_rfl) (by decide) ?htlg ?hfrg (Only.refl _ _) (fun _ _ _ h k => h.trans k (fun _ hx => .inl hx)) ?stabg ?stepsg ?doneg
  case htlg => simp only [List.drop_succ_cons, List.drop_zero]; rfl
  case hfrg => intro vals; simp only [putAll, dstAt, Act.put, List.getElem?_toArray, List.getElem?_cons_zero, List.getElem?_cons_succ, Option.bind_some, List.setIfInBounds_toArray, List.set_cons_zero, List.set_cons_succ]; rfl
  case stabg =>
    intro i v wa wb h
    try dsimp only
    split <;> first | exact id
  case stepsg =>
    refine ⟨?_, ?_, ?_, ?_, ?_, ?_, ?_, ?_, ?_, ?_, ?_, trivial⟩
    · intro vals wr hR hp K hK
      dsimp only at hK ⊢
      clear hp
      unfold RunsOp
      go_simp
      exact hK.out _ _ ⟨_, rfl, Only.refl _ _, rfl⟩
    · intro vals wr hR hp K hK
      dsimp only at hK ⊢
      obtain ⟨p0, -⟩ := hp
      replace p0 := p0 rfl
      dsimp only at p0
      rw [p0] at hK ⊢
      clear p0
      unfold RunsOp
      go_simp
      exact hK.out _ _ ⟨_, rfl, Only.refl _ _, rfl⟩
    · intro vals wr hR hp K hK
      dsimp only at hK ⊢
      obtain ⟨p1, -⟩ := hp
      replace p1 := p1 rfl
      dsimp only at p1
      rw [p1] at hK ⊢
      clear p1
      unfold RunsOp
      go_simp
      exact hK.out _ _ ⟨_, rfl, Only.refl _ _, rfl⟩
    · intro vals wr hR hp K hK
      dsimp only at hK ⊢
      obtain ⟨p2, -⟩ := hp
      replace p2 := p2 rfl
      dsimp only at p2
      rw [p2] at hK ⊢
      clear p2
      unfold RunsOp
      have k0 := (hR.cell (p := ⟨g, 1, none⟩) HG.out.2.2 (by simp)).trans HG.out.2.1
      go_simp
      exact hK.out _ _ ⟨_, rfl, Only.refl _ _, rfl⟩
    · intro vals wr hR hp K hK
      dsimp only at hK ⊢
      clear hp
      unfold RunsOp
      go_simp
      exact hK.out _ _ ⟨_, rfl, Only.refl _ _, rfl⟩
    · intro vals wr hR hp K hK
      dsimp only at hK ⊢
      clear hp
      unfold RunsOp
      go_simp
      exact hK.out _ _ ⟨_, rfl, Only.refl _ _, rfl⟩
    · intro vals wr hR hp K hK
      dsimp only at hK ⊢
      obtain ⟨p5, -⟩ := hp
      replace p5 := p5 rfl
      dsimp only at p5
      rw [p5] at hK ⊢
      clear p5
      unfold RunsOp
      go_simp
      exact hK.out _ _ ⟨_, rfl, Only.refl _ _, rfl⟩
    · intro vals wr hR hp K hK
      dsimp only at hK ⊢
      obtain ⟨p6, -⟩ := hp
      replace p6 := p6 rfl
      dsimp only at p6
      rw [p6] at hK ⊢
      clear p6
      unfold RunsOp
      go_simp
      exact hK.out _ _ ⟨_, rfl, Only.refl _ _, rfl⟩
    · intro vals wr hR hp K hK
      dsimp only at hK ⊢
      obtain ⟨p7, -⟩ := hp
      replace p7 := p7 rfl
      dsimp only at p7
      rw [p7] at hK ⊢
      clear p7
      unfold RunsOp
      have k0 := (hR.cell (p := ⟨g, 0, none⟩) HG.out.2.2 (by simp)).trans HG.out.1
      go_simp
      exact hK.out _ _ ⟨_, rfl, Only.refl _ _, rfl⟩
    · intro vals wr hR hp K hK
      dsimp only at hK ⊢
      obtain ⟨p3, p4, p8, -⟩ := hp
      replace p3 := p3 rfl
      replace p4 := p4 rfl
      replace p8 := p8 rfl
      dsimp only at p3 p4 p8
      rw [p3, p4, p8] at hK ⊢
      clear p3 p4 p8
      unfold RunsOp
      go_simp
      refine (HP.out _ ((Only.refl [] _).drew.trans hR (by simp))).mono ?_
      rintro e' w2 ⟨rfl, o2⟩
      exact hK.out _ _ ⟨_, rfl, o2, rfl⟩
    · intro vals wr hR hp K hK
      dsimp only at hK ⊢
      obtain ⟨p9, -, -, -, -, -, -, -, -, -, -, -, -⟩ := hp
      replace p9 := p9 rfl
      dsimp only at p9
      rw [p9] at hK ⊢
      clear p9
      unfold RunsOp
      go_simp
      exact hK.out _ _ ⟨_, rfl, Only.refl _ _, rfl⟩
  case doneg =>
    intro vals wd hR hF
    have f10 : vals 10 = .int .i64 (i : Nat) := hF 10 (by decide)
    rw [f10]
    clear f10
    have HOd := Lib.hid (((Only.refl [] (w)).drew.trans hR (by simp)))
    have k0 := (hR.cell (p := ⟨g, 0, none⟩) HG.out.2.2 (by simp)).trans HG.out.1
    have k1 := (hR.cell (p := ⟨g, 1, none⟩) HG.out.2.2 (by simp)).trans HG.out.2.1
    have HK := Lib.hid (And.intro k0 (And.intro k1 (Nat.lt_of_lt_of_le HG.out.2.2 HOd.out.size)))
    clear hR hF g0 g1 gl
    obtain ⟨wq, rfl⟩ : ∃ wq : World, wq = wd := ⟨_, rfl⟩
    skip
    gi_wp2_with (fail)
    go_wp2_with (fail)
    clear k0 k1
    refine (wpIn_wide (n := 9)).1 ?_
    refine wpIn_region_relR 22 (Only []) (fr := ?frh) (tl := ?tlh) (fun iq v wv => match iq with
      | 0 => v = .int .i64 (i : Nat)
      | 1 => v = .pointer (some ⟨g, 0, none⟩)
      | 2 => v = .pointer (some ⟨g, 0, none⟩)
      | 3 => v = .pointer (some ⟨g, 1, none⟩)
      | 4 => v = .slice (some ⟨b, 0, none⟩) n c
      | 5 => v = .int .i64 (n : Nat)
      | 6 => v = .bool false
      | 7 => v = .bool false
      | 8 => v = .pointer (some ⟨g, 0, none⟩)
      | 9 => v = .pointer (some ⟨g, 0, none⟩)
      | 10 => v = .pointer (some ⟨g, 0, none⟩)
      | 11 => v = .func (.func 11) #[] #[]
      | 12 => v = .pointer (some ⟨g, 0, none⟩)
      | 13 => v = .pointer (some ⟨g, 0, none⟩)
      | 14 => v = .pointer (some ⟨g, 1, none⟩)
      | 15 => v = .slice (some ⟨b, 0, none⟩) n c
      | 16 => v = .int .i64 (i : Nat)
      | 17 => v = .pointer (some ⟨b, i, none⟩)
      | 18 => v = .int .i64 y
      | 19 => v = .int .i64 x
      | 20 => v = .int .i64 (cmpZ (keyI y) (keyI x))
      | 21 => v = .bool false
      | _ => True) (.inl rfl) (by kernel_rfl) (by kernel_rfl) (by kernel_rfl) (by kernel_rfl) (by kernel_rfl) (by kernel_rfl) (by decide) ?htlh ?hfrh (Only.refl _ _) (fun _ _ _ h k => h.trans k (fun _ hx => .inl hx)) ?stabh ?stepsh ?doneh
    case htlh => simp only [List.drop_succ_cons, List.drop_zero]; rfl
    case hfrh => intro vals; simp only [putAll, dstAt, Act.put, List.getElem?_toArray, List.getElem?_cons_zero, List.getElem?_cons_succ, Option.bind_some, List.setIfInBounds_toArray, List.set_cons_zero, List.set_cons_succ]; rfl
    case stabh =>
      intro i v wa wb h
      try dsimp only
      split <;> first | exact id
    case stepsh =>
      refine ⟨?_, ?_, ?_, ?_, ?_, ?_, ?_, ?_, ?_, ?_, ?_, ?_, ?_, ?_, ?_, ?_, ?_, ?_, ?_, ?_, ?_, ?_, trivial⟩
      · intro vals wr hR hp K hK
        dsimp only at hK ⊢
        clear hp
        unfold RunsOp
        go_simp
        exact hK.out _ _ ⟨_, rfl, Only.refl _ _, rfl⟩
      · intro vals wr hR hp K hK
        dsimp only at hK ⊢
        clear hp
        unfold RunsOp
        go_simp
        exact hK.out _ _ ⟨_, rfl, Only.refl _ _, rfl⟩
      · intro vals wr hR hp K hK
        dsimp only at hK ⊢
        obtain ⟨p1, -⟩ := hp
        replace p1 := p1 rfl
        dsimp only at p1
        rw [p1] at hK ⊢
        clear p1
        unfold RunsOp
        go_simp
        exact hK.out _ _ ⟨_, rfl, Only.refl _ _, rfl⟩
      · intro vals wr hR hp K hK
        dsimp only at hK ⊢
        obtain ⟨p2, -⟩ := hp
        replace p2 := p2 rfl
        dsimp only at p2
        rw [p2] at hK ⊢
        clear p2
        unfold RunsOp
        go_simp
        exact hK.out _ _ ⟨_, rfl, Only.refl _ _, rfl⟩
      · intro vals wr hR hp K hK
        dsimp only at hK ⊢
        obtain ⟨p3, -⟩ := hp
        replace p3 := p3 rfl
        dsimp only at p3
        rw [p3] at hK ⊢
        clear p3
        unfold RunsOp
        have k0 := (hR.cell (p := ⟨g, 1, none⟩) HK.out.2.2 (by simp)).trans HK.out.2.1
        go_simp
        exact hK.out _ _ ⟨_, rfl, Only.refl _ _, rfl⟩
      · intro vals wr hR hp K hK
        dsimp only at hK ⊢
        obtain ⟨p4, -⟩ := hp
        replace p4 := p4 rfl
        dsimp only at p4
        rw [p4] at hK ⊢
        clear p4
        unfold RunsOp
        go_simp
        exact hK.out _ _ ⟨_, rfl, Only.refl _ _, rfl⟩
      · intro vals wr hR hp K hK
        dsimp only at hK ⊢
        obtain ⟨p0, p5, -⟩ := hp
        replace p0 := p0 rfl
        replace p5 := p5 rfl
        dsimp only at p0 p5
        rw [p0, p5] at hK ⊢
        clear p0 p5
        unfold RunsOp
        have hb : (((i : Nat) : Int) == ((n : Nat) : Int)) = false := beq_eq_false_iff_ne.2 (by omega)
        go_simp
        exact hK.out _ _ ⟨_, rfl, Only.refl _ _, rfl⟩
      · intro vals wr hR hp K hK
        dsimp only at hK ⊢
        obtain ⟨p6, -⟩ := hp
        replace p6 := p6 rfl
        dsimp only at p6
        rw [p6] at hK ⊢
        clear p6
        unfold RunsOp
        go_simp
        exact hK.out _ _ ⟨_, rfl, Only.refl _ _, rfl⟩
      · intro vals wr hR hp K hK
        dsimp only at hK ⊢
        obtain ⟨p7, -⟩ := hp
        replace p7 := p7 rfl
        dsimp only at p7
        rw [p7] at hK ⊢
        clear p7
        unfold RunsOp
        go_simp
        exact hK.out _ _ ⟨_, rfl, Only.refl _ _, rfl⟩
      · intro vals wr hR hp K hK
        dsimp only at hK ⊢
        obtain ⟨p8, p7, -⟩ := hp
        replace p8 := p8 rfl
        replace p7 := p7 rfl
        dsimp only at p8 p7
        rw [p8, p7] at hK ⊢
        clear p8 p7
        unfold RunsOp
        go_simp
        exact hK.out _ _ ⟨_, rfl, Only.refl _ _, rfl⟩
      · intro vals wr hR hp K hK
        dsimp only at hK ⊢
        obtain ⟨p9, p7, -⟩ := hp
        replace p9 := p9 rfl
        replace p7 := p7 rfl
        dsimp only at p9 p7
        rw [p9, p7] at hK ⊢
        clear p9 p7
        unfold RunsOp
        go_simp
        exact hK.out _ _ ⟨_, rfl, Only.refl _ _, rfl⟩
      · intro vals wr hR hp K hK
        dsimp only at hK ⊢
        obtain ⟨p10, p7, -⟩ := hp
        replace p10 := p10 rfl
        replace p7 := p7 rfl
        dsimp only at p10 p7
        rw [p10, p7] at hK ⊢
        clear p10 p7
        unfold RunsOp
        have k0 := (hR.cell (p := ⟨g, 0, none⟩) HK.out.2.2 (by simp)).trans HK.out.1
        go_simp
        exact hK.out _ _ ⟨_, rfl, Only.refl _ _, rfl⟩
      · intro vals wr hR hp K hK
        dsimp only at hK ⊢
        obtain ⟨p7, -⟩ := hp
        replace p7 := p7 rfl
        dsimp only at p7
        rw [p7] at hK ⊢
        clear p7
        unfold RunsOp
        go_simp
        exact hK.out _ _ ⟨_, rfl, Only.refl _ _, rfl⟩
      · intro vals wr hR hp K hK
        dsimp only at hK ⊢
        obtain ⟨p12, p7, -⟩ := hp
        replace p12 := p12 rfl
        replace p7 := p7 rfl
        dsimp only at p12 p7
        rw [p12, p7] at hK ⊢
        clear p12 p7
        unfold RunsOp
        go_simp
        exact hK.out _ _ ⟨_, rfl, Only.refl _ _, rfl⟩
      · intro vals wr hR hp K hK
        dsimp only at hK ⊢
        obtain ⟨p13, p7, -⟩ := hp
        replace p13 := p13 rfl
        replace p7 := p7 rfl
        dsimp only at p13 p7
        rw [p13, p7] at hK ⊢
        clear p13 p7
        unfold RunsOp
        go_simp
        exact hK.out _ _ ⟨_, rfl, Only.refl _ _, rfl⟩
      · intro vals wr hR hp K hK
        dsimp only at hK ⊢
        obtain ⟨p14, p7, -⟩ := hp
        replace p14 := p14 rfl
        replace p7 := p7 rfl
        dsimp only at p14 p7
        rw [p14, p7] at hK ⊢
        clear p14 p7
        unfold RunsOp
        have k0 := (hR.cell (p := ⟨g, 1, none⟩) HK.out.2.2 (by simp)).trans HK.out.2.1
        go_simp
        exact hK.out _ _ ⟨_, rfl, Only.refl _ _, rfl⟩
      · intro vals wr hR hp K hK
        dsimp only at hK ⊢
        obtain ⟨p7, -⟩ := hp
        replace p7 := p7 rfl
        dsimp only at p7
        rw [p7] at hK ⊢
        clear p7
        unfold RunsOp
        go_simp
        exact hK.out _ _ ⟨_, rfl, Only.refl _ _, rfl⟩
      · intro vals wr hR hp K hK
        dsimp only at hK ⊢
        obtain ⟨p15, p16, p7, -⟩ := hp
        replace p15 := p15 rfl
        replace p16 := p16 rfl
        replace p7 := p7 rfl
        dsimp only at p15 p16 p7
        rw [p15, p16, p7] at hK ⊢
        clear p15 p16 p7
        unfold RunsOp
        have i0 : (0 : Int) ≤ (i : Int) := by omega
        have i1 : (i : Int) < (n : Int) := by omega
        go_simp
        exact hK.out _ _ ⟨_, rfl, Only.refl _ _, rfl⟩
      · intro vals wr hR hp K hK
        dsimp only at hK ⊢
        obtain ⟨p17, p7, -⟩ := hp
        replace p17 := p17 rfl
        replace p7 := p7 rfl
        dsimp only at p17 p7
        rw [p17, p7] at hK ⊢
        clear p17 p7
        unfold RunsOp
        have q0 := (hR.cell (p := ⟨b, i, none⟩) (show b < wq.heap.size from Nat.lt_of_lt_of_le HC.out.1 (Nat.le_trans H0.out.size HOd.out.size)) (by simp)).trans ((HOd.out.cell (p := ⟨b, i, none⟩) (show b < _ from Nat.lt_of_lt_of_le HC.out.1 H0.out.size) (by simp)).trans ((H0.out.cell (p := ⟨b, i, none⟩) HC.out.1 (by simp)).trans HC.out.2))
        go_simp
        exact hK.out _ _ ⟨_, rfl, Only.refl _ _, rfl⟩
      · intro vals wr hR hp K hK
        dsimp only at hK ⊢
        obtain ⟨p7, -⟩ := hp
        replace p7 := p7 rfl
        dsimp only at p7
        rw [p7] at hK ⊢
        clear p7
        unfold RunsOp
        go_simp
        exact hK.out _ _ ⟨_, rfl, Only.refl _ _, rfl⟩
      · intro vals wr hR hp K hK
        dsimp only at hK ⊢
        obtain ⟨p11, p18, p19, p7, -, -⟩ := hp
        replace p11 := p11 rfl
        replace p18 := p18 rfl
        replace p19 := p19 rfl
        replace p7 := p7 rfl
        dsimp only at p11 p18 p19 p7
        rw [p11, p18, p19, p7] at hK ⊢
        clear p11 p18 p19 p7
        unfold RunsOp
        go_simp
        refine (order_any y x _).mono ?_
        rintro e' w2 ⟨rfl, o2⟩
        exact hK.out _ _ ⟨_, rfl, o2, rfl⟩
      · intro vals wr hR hp K hK
        dsimp only at hK ⊢
        obtain ⟨p20, p7, -⟩ := hp
        replace p20 := p20 rfl
        replace p7 := p7 rfl
        dsimp only at p20 p7
        rw [p20, p7] at hK ⊢
        clear p20 p7
        unfold RunsOp
        go_simp
        exact hK.out _ _ ⟨_, rfl, Only.refl _ _, rfl⟩
    case doneh =>
      intro vals wd hR hF
      have f7 : vals 7 = .bool false := hF 7 (by decide)
      have f21 : vals 21 = .bool false := hF 21 (by decide)
      rw [f7, f21]
      clear f7 f21
      have HO4 := Lib.hid (H0.out.trans (HOd.out.trans ((Only.refl [] wq).drew.trans hR (by simp)) (by simp)) (by simp))
      have hz4 := HO4.out.size
      have hT4 := HT.out.1.keep HO4.out
      have hbk := hT4.blk
      rw [HLN.out] at hbk
      obtain ⟨g0, g1, gl⟩ := hbk.facts2
      obtain ⟨zs, hmk, hzo⟩ := make_own (P := Try.prog) 22 3 Try.underlying22 int_info (n - 1) (by omega) (by unfold maxLen; omega)
      obtain ⟨W5, hW5⟩ : ∃ W5, wd.alloc (.cells zs 3) = W5 := ⟨_, rfl⟩
      have hmk2 : (Instr.makeSlice 22 (.int .i64 0) (.int .i64 ((n : Int) - 1))).run Try.prog wd = .ok (.slice (some ⟨wd.heap.size, 0, none⟩) 0 (n - 1)) W5 := by
        rw [show (n : Int) - 1 = ((n - 1 : Nat) : Int) by omega, ← hW5]
        exact hmk wd
      have hQ5 := hzo wd
      rw [hW5] at hQ5
      have o45 : Only [] wd W5 := by rw [← hW5]; exact (Only.refl [] wd).alloc _
      have hz5 := o45.size
      have hrow := own_rowC (by rw [len_flat1]) (hT4.keep o45).row
      have hU1 : RowC W5 (some ⟨b, 0, none⟩) (flat1 (L.take i)) := by
        have h := hrow.take (i * 1)
        rw [Nat.mul_one, flat1_take] at h
        exact h
      obtain ⟨A6, c6, w6, hr6, ho6, hg6, -⟩ := run_append_rowC (P := Try.prog) (t := 22) (e := 3) (c := c) (m := i) 22 (by omega) Try.underlying22 int_info rfl hQ5 hU1 (flat1_one _) (by rw [len_flat1, List.length_take, HLN.out]; congr 1; omega) (by omega) (by unfold maxLen; omega) (by omega)
      rw [Nat.zero_add] at hr6 ho6
      rw [List.nil_append] at ho6
      have hz6 := hg6.size
      have o46 : Only [] wd w6 := o45.trans hg6 (fun y hy => .inr (by
        have := hQ5.lt y (by simpa using hy)
        omega))
      have hT6 := hT4.keep o46
      have hU2 : RowC w6 (some ⟨b, i + 1, none⟩) (flat1 (L.drop (i + 1))) := by
        have h := (own_rowC (by rw [len_flat1]) hT6.row).drop ((i + 1) * 1)
        rw [Nat.zero_add, Nat.mul_one, flat1_drop] at h
        exact h
      obtain ⟨A7, c7, w7, hr7, ho7, hg7, -⟩ := run_append_rowC (P := Try.prog) (t := 22) (e := 3) (c := (c - (i + 1))) (m := (n - (i + 1))) 22 (by omega) Try.underlying22 int_info rfl ho6 hU2 (flat1_one _) (by rw [len_flat1, List.length_drop, HLN.out]) (by omega) (by unfold maxLen; omega) (by omega)
      rw [← flat1_append] at ho7
      have hz7 := hg7.size
      have hbk6 := hT6.blk
      rw [HLN.out] at hbk6
      obtain ⟨g60, g61, gl6⟩ := hbk6.facts2
      have hgn : g ∉ (Value.slice A6 i c6).ownBlock.toList := fun h => by
        have := ho6.lt _ (by simpa using h)
        omega
      have hb7 := hg7.blk hbk6 hgn
      have gf7 : w7.frozen? ⟨g, 1, none⟩ = false := hb7.frozen 1
      obtain ⟨g70, g71, gl7⟩ := hb7.facts2
      have hlen : (L.take i ++ L.drop (i + 1)).length = i + (n - (i + 1)) := by
        rw [List.length_append, List.length_take, List.length_drop, HLN.out]
        omega
      have hB7 := HB.out
      have HFIN := Lib.hid (show BBI B (w7.setCell ⟨g, 1, none⟩ (.slice A7 (i + (n - (i + 1))) c7)) g (L.take i ++ L.drop (i + 1)) A7 c7 from ⟨by
        rw [hlen]
        exact hb7.set_ 1 _, by
        rw [hlen]
        exact ownsRow_only (only_setCell _ _ _) (own_base ho7 (by omega)) (fun x hx => by
          have := ho7.lt x hx
          simp
          omega), by
        have h := HT.out.1.srt
        have e : L = (L.take i ++ [y]) ++ L.drop (i + 1) := by
          rw [← take_succ_of HT.out.2, List.take_append_drop]
        rw [e] at h
        exact Sorted.app (Sorted.left (Sorted.left h)) (Sorted.right h) (fun p hp q hq => Sorted.cross h p (List.mem_append_left _ hp) q hq)⟩)
      have HOF := Lib.hid (show Only [g] w (w7.setCell ⟨g, 1, none⟩ (.slice A7 (i + (n - (i + 1))) c7)) from ((Only.refl [g] w).trans ((HO4.out.trans o46 (by simp)).trans hg7 (fun y hy => .inr (by
        have := ho6.lt y (by simpa using hy)
        omega))) (by simp)).setCell (.inl (by simp)) _)
      have j0 : (0 : Int) ≤ (i : Int) := by omega
      have j1 : (i : Int) ≤ (c : Int) := by omega
      have j2 : (0 : Int) ≤ (i : Int) + 1 := by omega
      have j3 : (i : Int) + 1 ≤ (n : Int) := by omega
      have j4 : ((i : Int) + 1).toNat = i + 1 := by omega
      have j5 : (i : Int) + 1 ≤ (c : Int) := by omega
      have m0 := (o45.cell (p := ⟨g, 1, none⟩) gl (by simp)).trans g1
      have gl5 : g < W5.heap.size := by omega
      clear hR hF hzo hmk hQ5 hrow hU1 hU2 hT4 hT6 hbk hbk6 hb7 ho6 ho7 hg6 hg7 hgn hlen hB7 o45 o46 HG HK hlc
      gi_wp2_with (fail)
      clear hW5
      go_wp2_with (at_builtin; first | (refine wpList_append_run hr6 rfl _ _ rfl rfl rfl rfl ?_; clear hr6; clear g0 g1 m0 gl gl5) | (refine wpList_append_run hr7 rfl _ _ rfl rfl rfl rfl ?_; clear hr7; clear g60 g61 gl6))
      refine bodyPost_ret (v := .bool true) (by simp [results, Try.results19, go_sem]) rfl ?_
      exact ⟨rfl, ⟨A7, c7, HFIN.out⟩, HOF.out⟩
set_option maxHeartbeats 4000000 in
theorem dropyes45 {B : Nat} {w : World} {g : Nat} {L : List Int} {A : Option Addr} (hT : BBI B w g L A L.length) (x : Int) (hn : L.length ≤ 1000000) {i : Nat} {y : Int} (hi : aheadB keyI L (keyI x) = i) (hy : L[i]? = some y) (hne : keyI y = keyI x) (hB : B ≤ w.heap.size) (hci : L.length = i + 1) :
    Calls Try.prog 19 #[.pointer (some ⟨g, 0, none⟩), .int .i64 x] w fun e w' => e = .returned (.bool true) ∧ (∃ A' c', BBI B w' g (L.take i ++ L.drop (i + 1)) A' c') ∧ Only [g] w w' := by
  have hil : i < L.length := (List.getElem?_eq_some_iff.1 hy).1
  obtain ⟨b, hA, hb, -, c0⟩ := own_cell1 rfl hT.row hy
  have HC := Lib.hid (And.intro hb c0)
  clear c0
  subst hA
  skip
  have h0 : Only [] w (w) := Only.refl _ _
  have hT2 := hT.keep h0
  have HG := Lib.hid hT2.blk.facts2
  have hr := own_rowC (by rw [len_flat1]) hT2.row
  have HP := Lib.hid (fun (W : World) (o : Only [] (w) W) => aheadI (x := x) (c := L.length) (hr.only o) rfl hn hT.srt)
  rw [hi] at HP
  obtain ⟨g0, g1, gl⟩ := hT.blk.facts2
  have HT := Lib.hid (And.intro hT hy)
  have hcz : (cmpZ (keyI y) (keyI x) != 0) = false := by
    have e : cmpZ (keyI y) (keyI x) = 0 := by unfold cmpZ; rw [hne]; simp
    rw [e]; rfl
  have HB := Lib.hid hB
  clear hT hy hB hne
  have HCI0 := hci
  obtain ⟨n, hL⟩ : ∃ n, L.length = n := ⟨_, rfl⟩
  have HLN := Lib.hid hL
  rw [hL] at HP HG g1 hn hil hci
  clear hL
  have HCI := Lib.hid hci
  clear hci HCI0
  skip
  have H0 := Lib.hid h0
  clear hr hT2 h0 hi
  go_enter Try.func19, Try.ntmps19
  go_wp2_with (fail)
  refine (wpIn_wide (n := 9)).1 ?_
  refine wpIn_region_relR 11 (Only []) (fr := ?frg) (tl := ?tlg) (fun iq v wv => match iq with
    | 0 => v = .pointer (some ⟨g, 0, none⟩)
    | 1 => v = .pointer (some ⟨g, 0, none⟩)
    | 2 => v = .pointer (some ⟨g, 1, none⟩)
    | 3 => v = .slice (some ⟨b, 0, none⟩) n n
    | 4 => v = .int .i64 x
    | 5 => v = .pointer (some ⟨g, 0, none⟩)
    | 6 => v = .pointer (some ⟨g, 0, none⟩)
    | 7 => v = .pointer (some ⟨g, 0, none⟩)
    | 8 => v = .func (.func 11) #[] #[]
    | 9 => v = .int .i64 (i : Nat)
    | 10 => v = .int .i64 (i : Nat)
    | _ => True) (.inl rfl) (by kernel_rfl) (by kernel_rfl) (by kernel_rfl) (by kernel_rfl) (by kernel_rfl) (by kernel_rfl) (by decide) ?htlg ?hfrg (Only.refl _ _) (fun _ _ _ h k => h.trans k (fun _ hx => .inl hx)) ?stabg ?stepsg ?doneg
  case htlg => simp only [List.drop_succ_cons, List.drop_zero]; rfl
  case hfrg => intro vals; simp only [putAll, dstAt, Act.put, List.getElem?_toArray, List.getElem?_cons_zero, List.getElem?_cons_succ, Option.bind_some, List.setIfInBounds_toArray, List.set_cons_zero, List.set_cons_succ]; rfl
  case stabg =>
    intro i v wa wb h
    try dsimp only
    split <;> first | exact id
  case stepsg =>
    refine ⟨?_, ?_, ?_, ?_, ?_, ?_, ?_, ?_, ?_, ?_, ?_, trivial⟩
    · intro vals wr hR hp K hK
      dsimp only at hK ⊢
      clear hp
      unfold RunsOp
      go_simp
      exact hK.out _ _ ⟨_, rfl, Only.refl _ _, rfl⟩
    · intro vals wr hR hp K hK
      dsimp only at hK ⊢
      obtain ⟨p0, -⟩ := hp
      replace p0 := p0 rfl
      dsimp only at p0
      rw [p0] at hK ⊢
      clear p0
      unfold RunsOp
      go_simp
      exact hK.out _ _ ⟨_, rfl, Only.refl _ _, rfl⟩
    · intro vals wr hR hp K hK
      dsimp only at hK ⊢
      obtain ⟨p1, -⟩ := hp
      replace p1 := p1 rfl
      dsimp only at p1
      rw [p1] at hK ⊢
      clear p1
      unfold RunsOp
      go_simp
      exact hK.out _ _ ⟨_, rfl, Only.refl _ _, rfl⟩
    · intro vals wr hR hp K hK
      dsimp only at hK ⊢
      obtain ⟨p2, -⟩ := hp
      replace p2 := p2 rfl
      dsimp only at p2
      rw [p2] at hK ⊢
      clear p2
      unfold RunsOp
      have k0 := (hR.cell (p := ⟨g, 1, none⟩) HG.out.2.2 (by simp)).trans HG.out.2.1
      go_simp
      exact hK.out _ _ ⟨_, rfl, Only.refl _ _, rfl⟩
    · intro vals wr hR hp K hK
      dsimp only at hK ⊢
      clear hp
      unfold RunsOp
      go_simp
      exact hK.out _ _ ⟨_, rfl, Only.refl _ _, rfl⟩
    · intro vals wr hR hp K hK
      dsimp only at hK ⊢
      clear hp
      unfold RunsOp
      go_simp
      exact hK.out _ _ ⟨_, rfl, Only.refl _ _, rfl⟩
    · intro vals wr hR hp K hK
      dsimp only at hK ⊢
      obtain ⟨p5, -⟩ := hp
      replace p5 := p5 rfl
      dsimp only at p5
      rw [p5] at hK ⊢
      clear p5
      unfold RunsOp
      go_simp
      exact hK.out _ _ ⟨_, rfl, Only.refl _ _, rfl⟩
    · intro vals wr hR hp K hK
      dsimp only at hK ⊢
      obtain ⟨p6, -⟩ := hp
      replace p6 := p6 rfl
      dsimp only at p6
      rw [p6] at hK ⊢
      clear p6
      unfold RunsOp
      go_simp
      exact hK.out _ _ ⟨_, rfl, Only.refl _ _, rfl⟩
    · intro vals wr hR hp K hK
      dsimp only at hK ⊢
      obtain ⟨p7, -⟩ := hp
      replace p7 := p7 rfl
      dsimp only at p7
      rw [p7] at hK ⊢
      clear p7
      unfold RunsOp
      have k0 := (hR.cell (p := ⟨g, 0, none⟩) HG.out.2.2 (by simp)).trans HG.out.1
      go_simp
      exact hK.out _ _ ⟨_, rfl, Only.refl _ _, rfl⟩
    · intro vals wr hR hp K hK
      dsimp only at hK ⊢
      obtain ⟨p3, p4, p8, -⟩ := hp
      replace p3 := p3 rfl
      replace p4 := p4 rfl
      replace p8 := p8 rfl
      dsimp only at p3 p4 p8
      rw [p3, p4, p8] at hK ⊢
      clear p3 p4 p8
      unfold RunsOp
      go_simp
      refine (HP.out _ ((Only.refl [] _).drew.trans hR (by simp))).mono ?_
      rintro e' w2 ⟨rfl, o2⟩
      exact hK.out _ _ ⟨_, rfl, o2, rfl⟩
    · intro vals wr hR hp K hK
      dsimp only at hK ⊢
      obtain ⟨p9, -, -, -, -, -, -, -, -, -, -, -, -⟩ := hp
      replace p9 := p9 rfl
      dsimp only at p9
      rw [p9] at hK ⊢
      clear p9
      unfold RunsOp
      go_simp
      exact hK.out _ _ ⟨_, rfl, Only.refl _ _, rfl⟩
  case doneg =>
    intro vals wd hR hF
    have f10 : vals 10 = .int .i64 (i : Nat) := hF 10 (by decide)
    rw [f10]
    clear f10
    have HOd := Lib.hid (((Only.refl [] (w)).drew.trans hR (by simp)))
    have k0 := (hR.cell (p := ⟨g, 0, none⟩) HG.out.2.2 (by simp)).trans HG.out.1
    have k1 := (hR.cell (p := ⟨g, 1, none⟩) HG.out.2.2 (by simp)).trans HG.out.2.1
    have HK := Lib.hid (And.intro k0 (And.intro k1 (Nat.lt_of_lt_of_le HG.out.2.2 HOd.out.size)))
    clear hR hF g0 g1 gl
    obtain ⟨wq, rfl⟩ : ∃ wq : World, wq = wd := ⟨_, rfl⟩
    skip
    gi_wp2_with (fail)
    go_wp2_with (fail)
    clear k0 k1
    refine (wpIn_wide (n := 9)).1 ?_
    refine wpIn_region_relR 22 (Only []) (fr := ?frh) (tl := ?tlh) (fun iq v wv => match iq with
      | 0 => v = .int .i64 (i : Nat)
      | 1 => v = .pointer (some ⟨g, 0, none⟩)
      | 2 => v = .pointer (some ⟨g, 0, none⟩)
      | 3 => v = .pointer (some ⟨g, 1, none⟩)
      | 4 => v = .slice (some ⟨b, 0, none⟩) n n
      | 5 => v = .int .i64 (n : Nat)
      | 6 => v = .bool false
      | 7 => v = .bool false
      | 8 => v = .pointer (some ⟨g, 0, none⟩)
      | 9 => v = .pointer (some ⟨g, 0, none⟩)
      | 10 => v = .pointer (some ⟨g, 0, none⟩)
      | 11 => v = .func (.func 11) #[] #[]
      | 12 => v = .pointer (some ⟨g, 0, none⟩)
      | 13 => v = .pointer (some ⟨g, 0, none⟩)
      | 14 => v = .pointer (some ⟨g, 1, none⟩)
      | 15 => v = .slice (some ⟨b, 0, none⟩) n n
      | 16 => v = .int .i64 (i : Nat)
      | 17 => v = .pointer (some ⟨b, i, none⟩)
      | 18 => v = .int .i64 y
      | 19 => v = .int .i64 x
      | 20 => v = .int .i64 (cmpZ (keyI y) (keyI x))
      | 21 => v = .bool false
      | _ => True) (.inl rfl) (by kernel_rfl) (by kernel_rfl) (by kernel_rfl) (by kernel_rfl) (by kernel_rfl) (by kernel_rfl) (by decide) ?htlh ?hfrh (Only.refl _ _) (fun _ _ _ h k => h.trans k (fun _ hx => .inl hx)) ?stabh ?stepsh ?doneh
    case htlh => simp only [List.drop_succ_cons, List.drop_zero]; rfl
    case hfrh => intro vals; simp only [putAll, dstAt, Act.put, List.getElem?_toArray, List.getElem?_cons_zero, List.getElem?_cons_succ, Option.bind_some, List.setIfInBounds_toArray, List.set_cons_zero, List.set_cons_succ]; rfl
    case stabh =>
      intro i v wa wb h
      try dsimp only
      split <;> first | exact id
    case stepsh =>
      refine ⟨?_, ?_, ?_, ?_, ?_, ?_, ?_, ?_, ?_, ?_, ?_, ?_, ?_, ?_, ?_, ?_, ?_, ?_, ?_, ?_, ?_, ?_, trivial⟩
      · intro vals wr hR hp K hK
        dsimp only at hK ⊢
        clear hp
        unfold RunsOp
        go_simp
        exact hK.out _ _ ⟨_, rfl, Only.refl _ _, rfl⟩
      · intro vals wr hR hp K hK
        dsimp only at hK ⊢
        clear hp
        unfold RunsOp
        go_simp
        exact hK.out _ _ ⟨_, rfl, Only.refl _ _, rfl⟩
      · intro vals wr hR hp K hK
        dsimp only at hK ⊢
        obtain ⟨p1, -⟩ := hp
        replace p1 := p1 rfl
        dsimp only at p1
        rw [p1] at hK ⊢
        clear p1
        unfold RunsOp
        go_simp
        exact hK.out _ _ ⟨_, rfl, Only.refl _ _, rfl⟩
      · intro vals wr hR hp K hK
        dsimp only at hK ⊢
        obtain ⟨p2, -⟩ := hp
        replace p2 := p2 rfl
        dsimp only at p2
        rw [p2] at hK ⊢
        clear p2
        unfold RunsOp
        go_simp
        exact hK.out _ _ ⟨_, rfl, Only.refl _ _, rfl⟩
      · intro vals wr hR hp K hK
        dsimp only at hK ⊢
        obtain ⟨p3, -⟩ := hp
        replace p3 := p3 rfl
        dsimp only at p3
        rw [p3] at hK ⊢
        clear p3
        unfold RunsOp
        have k0 := (hR.cell (p := ⟨g, 1, none⟩) HK.out.2.2 (by simp)).trans HK.out.2.1
        go_simp
        exact hK.out _ _ ⟨_, rfl, Only.refl _ _, rfl⟩
      · intro vals wr hR hp K hK
        dsimp only at hK ⊢
        obtain ⟨p4, -⟩ := hp
        replace p4 := p4 rfl
        dsimp only at p4
        rw [p4] at hK ⊢
        clear p4
        unfold RunsOp
        go_simp
        exact hK.out _ _ ⟨_, rfl, Only.refl _ _, rfl⟩
      · intro vals wr hR hp K hK
        dsimp only at hK ⊢
        obtain ⟨p0, p5, -⟩ := hp
        replace p0 := p0 rfl
        replace p5 := p5 rfl
        dsimp only at p0 p5
        rw [p0, p5] at hK ⊢
        clear p0 p5
        unfold RunsOp
        have hb : (((i : Nat) : Int) == ((n : Nat) : Int)) = false := beq_eq_false_iff_ne.2 (by omega)
        go_simp
        exact hK.out _ _ ⟨_, rfl, Only.refl _ _, rfl⟩
      · intro vals wr hR hp K hK
        dsimp only at hK ⊢
        obtain ⟨p6, -⟩ := hp
        replace p6 := p6 rfl
        dsimp only at p6
        rw [p6] at hK ⊢
        clear p6
        unfold RunsOp
        go_simp
        exact hK.out _ _ ⟨_, rfl, Only.refl _ _, rfl⟩
      · intro vals wr hR hp K hK
        dsimp only at hK ⊢
        obtain ⟨p7, -⟩ := hp
        replace p7 := p7 rfl
        dsimp only at p7
        rw [p7] at hK ⊢
        clear p7
        unfold RunsOp
        go_simp
        exact hK.out _ _ ⟨_, rfl, Only.refl _ _, rfl⟩
      · intro vals wr hR hp K hK
        dsimp only at hK ⊢
        obtain ⟨p8, p7, -⟩ := hp
        replace p8 := p8 rfl
        replace p7 := p7 rfl
        dsimp only at p8 p7
        rw [p8, p7] at hK ⊢
        clear p8 p7
        unfold RunsOp
        go_simp
        exact hK.out _ _ ⟨_, rfl, Only.refl _ _, rfl⟩
      · intro vals wr hR hp K hK
        dsimp only at hK ⊢
        obtain ⟨p9, p7, -⟩ := hp
        replace p9 := p9 rfl
        replace p7 := p7 rfl
        dsimp only at p9 p7
        rw [p9, p7] at hK ⊢
        clear p9 p7
        unfold RunsOp
        go_simp
        exact hK.out _ _ ⟨_, rfl, Only.refl _ _, rfl⟩
      · intro vals wr hR hp K hK
        dsimp only at hK ⊢
        obtain ⟨p10, p7, -⟩ := hp
        replace p10 := p10 rfl
        replace p7 := p7 rfl
        dsimp only at p10 p7
        rw [p10, p7] at hK ⊢
        clear p10 p7
        unfold RunsOp
        have k0 := (hR.cell (p := ⟨g, 0, none⟩) HK.out.2.2 (by simp)).trans HK.out.1
        go_simp
        exact hK.out _ _ ⟨_, rfl, Only.refl _ _, rfl⟩
      · intro vals wr hR hp K hK
        dsimp only at hK ⊢
        obtain ⟨p7, -⟩ := hp
        replace p7 := p7 rfl
        dsimp only at p7
        rw [p7] at hK ⊢
        clear p7
        unfold RunsOp
        go_simp
        exact hK.out _ _ ⟨_, rfl, Only.refl _ _, rfl⟩
      · intro vals wr hR hp K hK
        dsimp only at hK ⊢
        obtain ⟨p12, p7, -⟩ := hp
        replace p12 := p12 rfl
        replace p7 := p7 rfl
        dsimp only at p12 p7
        rw [p12, p7] at hK ⊢
        clear p12 p7
        unfold RunsOp
        go_simp
        exact hK.out _ _ ⟨_, rfl, Only.refl _ _, rfl⟩
      · intro vals wr hR hp K hK
        dsimp only at hK ⊢
        obtain ⟨p13, p7, -⟩ := hp
        replace p13 := p13 rfl
        replace p7 := p7 rfl
        dsimp only at p13 p7
        rw [p13, p7] at hK ⊢
        clear p13 p7
        unfold RunsOp
        go_simp
        exact hK.out _ _ ⟨_, rfl, Only.refl _ _, rfl⟩
      · intro vals wr hR hp K hK
        dsimp only at hK ⊢
        obtain ⟨p14, p7, -⟩ := hp
        replace p14 := p14 rfl
        replace p7 := p7 rfl
        dsimp only at p14 p7
        rw [p14, p7] at hK ⊢
        clear p14 p7
        unfold RunsOp
        have k0 := (hR.cell (p := ⟨g, 1, none⟩) HK.out.2.2 (by simp)).trans HK.out.2.1
        go_simp
        exact hK.out _ _ ⟨_, rfl, Only.refl _ _, rfl⟩
      · intro vals wr hR hp K hK
        dsimp only at hK ⊢
        obtain ⟨p7, -⟩ := hp
        replace p7 := p7 rfl
        dsimp only at p7
        rw [p7] at hK ⊢
        clear p7
        unfold RunsOp
        go_simp
        exact hK.out _ _ ⟨_, rfl, Only.refl _ _, rfl⟩
      · intro vals wr hR hp K hK
        dsimp only at hK ⊢
        obtain ⟨p15, p16, p7, -⟩ := hp
        replace p15 := p15 rfl
        replace p16 := p16 rfl
        replace p7 := p7 rfl
        dsimp only at p15 p16 p7
        rw [p15, p16, p7] at hK ⊢
        clear p15 p16 p7
        unfold RunsOp
        have i0 : (0 : Int) ≤ (i : Int) := by omega
        have i1 : (i : Int) < (n : Int) := by omega
        go_simp
        exact hK.out _ _ ⟨_, rfl, Only.refl _ _, rfl⟩
      · intro vals wr hR hp K hK
        dsimp only at hK ⊢
        obtain ⟨p17, p7, -⟩ := hp
        replace p17 := p17 rfl
        replace p7 := p7 rfl
        dsimp only at p17 p7
        rw [p17, p7] at hK ⊢
        clear p17 p7
        unfold RunsOp
        have q0 := (hR.cell (p := ⟨b, i, none⟩) (show b < wq.heap.size from Nat.lt_of_lt_of_le HC.out.1 (Nat.le_trans H0.out.size HOd.out.size)) (by simp)).trans ((HOd.out.cell (p := ⟨b, i, none⟩) (show b < _ from Nat.lt_of_lt_of_le HC.out.1 H0.out.size) (by simp)).trans ((H0.out.cell (p := ⟨b, i, none⟩) HC.out.1 (by simp)).trans HC.out.2))
        go_simp
        exact hK.out _ _ ⟨_, rfl, Only.refl _ _, rfl⟩
      · intro vals wr hR hp K hK
        dsimp only at hK ⊢
        obtain ⟨p7, -⟩ := hp
        replace p7 := p7 rfl
        dsimp only at p7
        rw [p7] at hK ⊢
        clear p7
        unfold RunsOp
        go_simp
        exact hK.out _ _ ⟨_, rfl, Only.refl _ _, rfl⟩
      · intro vals wr hR hp K hK
        dsimp only at hK ⊢
        obtain ⟨p11, p18, p19, p7, -, -⟩ := hp
        replace p11 := p11 rfl
        replace p18 := p18 rfl
        replace p19 := p19 rfl
        replace p7 := p7 rfl
        dsimp only at p11 p18 p19 p7
        rw [p11, p18, p19, p7] at hK ⊢
        clear p11 p18 p19 p7
        unfold RunsOp
        go_simp
        refine (order_any y x _).mono ?_
        rintro e' w2 ⟨rfl, o2⟩
        exact hK.out _ _ ⟨_, rfl, o2, rfl⟩
      · intro vals wr hR hp K hK
        dsimp only at hK ⊢
        obtain ⟨p20, p7, -⟩ := hp
        replace p20 := p20 rfl
        replace p7 := p7 rfl
        dsimp only at p20 p7
        rw [p20, p7] at hK ⊢
        clear p20 p7
        unfold RunsOp
        go_simp
        exact hK.out _ _ ⟨_, rfl, Only.refl _ _, rfl⟩
    case doneh =>
      intro vals wd hR hF
      have f7 : vals 7 = .bool false := hF 7 (by decide)
      have f21 : vals 21 = .bool false := hF 21 (by decide)
      rw [f7, f21]
      clear f7 f21
      have HO4 := Lib.hid (H0.out.trans (HOd.out.trans ((Only.refl [] wq).drew.trans hR (by simp)) (by simp)) (by simp))
      have hz4 := HO4.out.size
      have hci := HCI.out
      have hT4 := HT.out.1.keep HO4.out
      have hbk := hT4.blk
      rw [HLN.out] at hbk
      obtain ⟨g0, g1, gl⟩ := hbk.facts2
      obtain ⟨zs, hmk, hzo⟩ := make_own (P := Try.prog) 22 3 Try.underlying22 int_info (n - 1) (by omega) (by unfold maxLen; omega)
      obtain ⟨W5, hW5⟩ : ∃ W5, wd.alloc (.cells zs 3) = W5 := ⟨_, rfl⟩
      have hmk2 : (Instr.makeSlice 22 (.int .i64 0) (.int .i64 ((n : Int) - 1))).run Try.prog wd = .ok (.slice (some ⟨wd.heap.size, 0, none⟩) 0 (n - 1)) W5 := by
        rw [show (n : Int) - 1 = ((n - 1 : Nat) : Int) by omega, ← hW5]
        exact hmk wd
      have hQ5 := hzo wd
      rw [hW5] at hQ5
      have o45 : Only [] wd W5 := by rw [← hW5]; exact (Only.refl [] wd).alloc _
      have hz5 := o45.size
      have hrow := own_rowC (by rw [len_flat1]) (hT4.keep o45).row
      have hU1 : RowC W5 (some ⟨b, 0, none⟩) (flat1 (L.take i)) := by
        have h := hrow.take (i * 1)
        rw [Nat.mul_one, flat1_take] at h
        exact h
      obtain ⟨A6, c6, w6, hr6, ho6, hg6, -⟩ := run_append_rowC (P := Try.prog) (t := 22) (e := 3) (c := n) (m := i) 22 (by omega) Try.underlying22 int_info rfl hQ5 hU1 (flat1_one _) (by rw [len_flat1, List.length_take, HLN.out]; congr 1; omega) (by omega) (by unfold maxLen; omega) (by omega)
      rw [Nat.zero_add] at hr6 ho6
      rw [List.nil_append] at ho6
      have hz6 := hg6.size
      have o46 : Only [] wd w6 := o45.trans hg6 (fun y hy => .inr (by
        have := hQ5.lt y (by simpa using hy)
        omega))
      have hT6 := hT4.keep o46
      have hU2 : RowC w6 (some ⟨b, 0, none⟩) (flat1 (L.drop (i + 1))) := by
        rw [List.drop_of_length_le (by rw [HLN.out]; omega)]; exact RowC.nil _ _
      obtain ⟨A7, c7, w7, hr7, ho7, hg7, -⟩ := run_append_rowC (P := Try.prog) (t := 22) (e := 3) (c := 0) (m := 0) 22 (by omega) Try.underlying22 int_info rfl ho6 hU2 (flat1_one _) (by rw [len_flat1, List.length_drop, HLN.out]; omega) (by omega) (by unfold maxLen; omega) (by omega)
      rw [← flat1_append] at ho7
      have hz7 := hg7.size
      have hbk6 := hT6.blk
      rw [HLN.out] at hbk6
      obtain ⟨g60, g61, gl6⟩ := hbk6.facts2
      have hgn : g ∉ (Value.slice A6 i c6).ownBlock.toList := fun h => by
        have := ho6.lt _ (by simpa using h)
        omega
      have hb7 := hg7.blk hbk6 hgn
      have gf7 : w7.frozen? ⟨g, 1, none⟩ = false := hb7.frozen 1
      obtain ⟨g70, g71, gl7⟩ := hb7.facts2
      have hlen : (L.take i ++ L.drop (i + 1)).length = i + 0 := by
        rw [List.length_append, List.length_take, List.length_drop, HLN.out]
        omega
      have hB7 := HB.out
      have HFIN := Lib.hid (show BBI B (w7.setCell ⟨g, 1, none⟩ (.slice A7 (i + 0) c7)) g (L.take i ++ L.drop (i + 1)) A7 c7 from ⟨by
        rw [hlen]
        exact hb7.set_ 1 _, by
        rw [hlen]
        exact ownsRow_only (only_setCell _ _ _) (own_base ho7 (by omega)) (fun x hx => by
          have := ho7.lt x hx
          simp
          omega), by
        have h := HT.out.1.srt
        have e : L = (L.take i ++ [y]) ++ L.drop (i + 1) := by
          rw [← take_succ_of HT.out.2, List.take_append_drop]
        rw [e] at h
        exact Sorted.app (Sorted.left (Sorted.left h)) (Sorted.right h) (fun p hp q hq => Sorted.cross h p (List.mem_append_left _ hp) q hq)⟩)
      have HOF := Lib.hid (show Only [g] w (w7.setCell ⟨g, 1, none⟩ (.slice A7 (i + 0) c7)) from ((Only.refl [g] w).trans ((HO4.out.trans o46 (by simp)).trans hg7 (fun y hy => .inr (by
        have := ho6.lt y (by simpa using hy)
        omega))) (by simp)).setCell (.inl (by simp)) _)
      have jn : n - n = 0 := Nat.sub_self n
      have j0 : (0 : Int) ≤ (i : Int) := by omega
      have j1 : (i : Int) ≤ (n : Int) := by omega
      have j2 : (0 : Int) ≤ (i : Int) + 1 := by omega
      have j3 : (i : Int) + 1 ≤ (n : Int) := by omega
      have j4 : ((i : Int) + 1).toNat = n := by omega
      skip
      have m0 := (o45.cell (p := ⟨g, 1, none⟩) gl (by simp)).trans g1
      have gl5 : g < W5.heap.size := by omega
      clear hci hR hF hzo hmk hQ5 hrow hU1 hU2 hT4 hT6 hbk hbk6 hb7 ho6 ho7 hg6 hg7 hgn hlen hB7 o45 o46 HG HK
      gi_wp2_with (fail)
      clear hW5
      go_wp2_with (at_builtin; first | (refine wpList_append_run hr6 rfl _ _ rfl rfl rfl rfl ?_; clear hr6; clear g0 g1 m0 gl gl5) | (refine wpList_append_run hr7 rfl _ _ rfl rfl rfl rfl ?_; clear hr7; clear g60 g61 gl6))
      refine bodyPost_ret (v := .bool true) (by simp [results, Try.results19, go_sem]) rfl ?_
      exact ⟨rfl, ⟨A7, c7, HFIN.out⟩, HOF.out⟩
set_option maxHeartbeats 4000000 in
theorem dropendJ {B : Nat} {w : World} {g : Nat} {L : List Ent} {A : Option Addr} {c : Nat} (hT : BBJ B w g L A c) (x : Ent) (hn : L.length ≤ 1000000) (hi : aheadB keyJ L (keyJ x) = L.length) :
    Calls Try.prog 26 #[.pointer (some ⟨g, 0, none⟩), .agg #[.int .i64 x.1, .int .i64 x.2]] w fun e w' => e = .returned (.bool false) ∧ Only [] w w' := by
  have h0 : Only [] w (w.alloc (.cells #[.int .i64 x.1, .int .i64 x.2] 49)) := (Only.refl [] w).alloc _
  have hT2 := hT.keep h0
  have HG := Lib.hid hT2.blk.facts2
  have hr := own_rowC (by rw [len_flat2]) hT2.row
  have HP := Lib.hid (fun (W : World) (o : Only [] (w.alloc (.cells #[.int .i64 x.1, .int .i64 x.2] 49)) W) => aheadJ (x := x) (c := c) (hr.only o) rfl hn hT.srt)
  rw [hi] at HP
  obtain ⟨g0, g1, gl⟩ := hT.blk.facts2
  generalize L.length = n at *
  clear hT
  have HBX := Lib.hid (Blk.new w 49 #[.int .i64 x.1, .int .i64 x.2]).facts2
  have H0 := Lib.hid h0
  clear hr hT2 h0 hi
  go_enter Try.func26, Try.ntmps26
  go_wp2_with (fail)
  refine (wpIn_wide (n := 9)).1 ?_
  refine wpIn_region_relR 11 (Only []) (fr := ?frg) (tl := ?tlg) (fun iq v wv => match iq with
    | 0 => v = .pointer (some ⟨g, 0, none⟩)
    | 1 => v = .pointer (some ⟨g, 0, none⟩)
    | 2 => v = .pointer (some ⟨g, 1, none⟩)
    | 3 => v = .slice A n c
    | 4 => v = .agg #[.int .i64 x.1, .int .i64 x.2]
    | 5 => v = .pointer (some ⟨g, 0, none⟩)
    | 6 => v = .pointer (some ⟨g, 0, none⟩)
    | 7 => v = .pointer (some ⟨g, 0, none⟩)
    | 8 => v = .func (.func 22) #[] #[]
    | 9 => v = .int .i64 (n : Nat)
    | 10 => v = .int .i64 (n : Nat)
    | _ => True) (.inl rfl) (by kernel_rfl) (by kernel_rfl) (by kernel_rfl) (by kernel_rfl) (by kernel_rfl) (by kernel_rfl) (by decide) ?htlg ?hfrg (Only.refl _ _) (fun _ _ _ h k => h.trans k (fun _ hx => .inl hx)) ?stabg ?stepsg ?doneg
  case htlg => simp only [List.drop_succ_cons, List.drop_zero]; rfl
  case hfrg => intro vals; simp only [putAll, dstAt, Act.put, List.getElem?_toArray, List.getElem?_cons_zero, List.getElem?_cons_succ, Option.bind_some, List.setIfInBounds_toArray, List.set_cons_zero, List.set_cons_succ]; rfl
  case stabg =>
    intro i v wa wb h
    try dsimp only
    split <;> first | exact id
  case stepsg =>
    refine ⟨?_, ?_, ?_, ?_, ?_, ?_, ?_, ?_, ?_, ?_, ?_, trivial⟩
    · intro vals wr hR hp K hK
      dsimp only at hK ⊢
      clear hp
      unfold RunsOp
      go_simp
      exact hK.out _ _ ⟨_, rfl, Only.refl _ _, rfl⟩
    · intro vals wr hR hp K hK
      dsimp only at hK ⊢
      obtain ⟨p0, -⟩ := hp
      replace p0 := p0 rfl
      dsimp only at p0
      rw [p0] at hK ⊢
      clear p0
      unfold RunsOp
      go_simp
      exact hK.out _ _ ⟨_, rfl, Only.refl _ _, rfl⟩
    · intro vals wr hR hp K hK
      dsimp only at hK ⊢
      obtain ⟨p1, -⟩ := hp
      replace p1 := p1 rfl
      dsimp only at p1
      rw [p1] at hK ⊢
      clear p1
      unfold RunsOp
      go_simp
      exact hK.out _ _ ⟨_, rfl, Only.refl _ _, rfl⟩
    · intro vals wr hR hp K hK
      dsimp only at hK ⊢
      obtain ⟨p2, -⟩ := hp
      replace p2 := p2 rfl
      dsimp only at p2
      rw [p2] at hK ⊢
      clear p2
      unfold RunsOp
      have k0 := (hR.cell (p := ⟨g, 1, none⟩) HG.out.2.2 (by simp)).trans HG.out.2.1
      go_simp
      exact hK.out _ _ ⟨_, rfl, Only.refl _ _, rfl⟩
    · intro vals wr hR hp K hK
      dsimp only at hK ⊢
      clear hp
      unfold RunsOp
      have k0 := (hR.cell (p := ⟨w.heap.size, 0, none⟩) HBX.out.2.2 (by simp)).trans HBX.out.1
      have k1 := (hR.cell (p := ⟨w.heap.size, 1, none⟩) HBX.out.2.2 (by simp)).trans HBX.out.2.1
      go_simp
      exact hK.out _ _ ⟨_, rfl, Only.refl _ _, rfl⟩
    · intro vals wr hR hp K hK
      dsimp only at hK ⊢
      clear hp
      unfold RunsOp
      go_simp
      exact hK.out _ _ ⟨_, rfl, Only.refl _ _, rfl⟩
    · intro vals wr hR hp K hK
      dsimp only at hK ⊢
      obtain ⟨p5, -⟩ := hp
      replace p5 := p5 rfl
      dsimp only at p5
      rw [p5] at hK ⊢
      clear p5
      unfold RunsOp
      go_simp
      exact hK.out _ _ ⟨_, rfl, Only.refl _ _, rfl⟩
    · intro vals wr hR hp K hK
      dsimp only at hK ⊢
      obtain ⟨p6, -⟩ := hp
      replace p6 := p6 rfl
      dsimp only at p6
      rw [p6] at hK ⊢
      clear p6
      unfold RunsOp
      go_simp
      exact hK.out _ _ ⟨_, rfl, Only.refl _ _, rfl⟩
    · intro vals wr hR hp K hK
      dsimp only at hK ⊢
      obtain ⟨p7, -⟩ := hp
      replace p7 := p7 rfl
      dsimp only at p7
      rw [p7] at hK ⊢
      clear p7
      unfold RunsOp
      have k0 := (hR.cell (p := ⟨g, 0, none⟩) HG.out.2.2 (by simp)).trans HG.out.1
      go_simp
      exact hK.out _ _ ⟨_, rfl, Only.refl _ _, rfl⟩
    · intro vals wr hR hp K hK
      dsimp only at hK ⊢
      obtain ⟨p3, p4, p8, -⟩ := hp
      replace p3 := p3 rfl
      replace p4 := p4 rfl
      replace p8 := p8 rfl
      dsimp only at p3 p4 p8
      rw [p3, p4, p8] at hK ⊢
      clear p3 p4 p8
      unfold RunsOp
      go_simp
      refine (HP.out _ ((Only.refl [] _).drew.trans hR (by simp))).mono ?_
      rintro e' w2 ⟨rfl, o2⟩
      exact hK.out _ _ ⟨_, rfl, o2, rfl⟩
    · intro vals wr hR hp K hK
      dsimp only at hK ⊢
      obtain ⟨p9, -, -, -, -, -, -, -, -, -, -, -, -⟩ := hp
      replace p9 := p9 rfl
      dsimp only at p9
      rw [p9] at hK ⊢
      clear p9
      unfold RunsOp
      go_simp
      exact hK.out _ _ ⟨_, rfl, Only.refl _ _, rfl⟩
  case doneg =>
    intro vals wd hR hF
    have f10 : vals 10 = .int .i64 (n : Nat) := hF 10 (by decide)
    rw [f10]
    clear f10
    have HOd := Lib.hid (((Only.refl [] (w.alloc (.cells #[.int .i64 x.1, .int .i64 x.2] 49))).drew.trans hR (by simp)))
    have k0 := (hR.cell (p := ⟨g, 0, none⟩) HG.out.2.2 (by simp)).trans HG.out.1
    have k1 := (hR.cell (p := ⟨g, 1, none⟩) HG.out.2.2 (by simp)).trans HG.out.2.1
    have HK := Lib.hid (And.intro k0 (And.intro k1 (Nat.lt_of_lt_of_le HG.out.2.2 HOd.out.size)))
    clear hR hF g0 g1 gl
    obtain ⟨wq, rfl⟩ : ∃ wq : World, wq = wd := ⟨_, rfl⟩
    have HBX2 := Lib.hid (show wq.cell? ⟨w.heap.size, 0, none⟩ = some (.int .i64 x.1) ∧ wq.cell? ⟨w.heap.size, 1, none⟩ = some (.int .i64 x.2) ∧ w.heap.size < wq.heap.size from ⟨(HOd.out.cell (p := ⟨w.heap.size, 0, none⟩) HBX.out.2.2 (by simp)).trans HBX.out.1, (HOd.out.cell (p := ⟨w.heap.size, 1, none⟩) HBX.out.2.2 (by simp)).trans HBX.out.2.1, Nat.lt_of_lt_of_le HBX.out.2.2 HOd.out.size⟩)
    gi_wp2_with (fail)
    go_wp2_with (fail)
    clear k0 k1
    refine (wpIn_wide (n := 9)).1 ?_
    refine wpIn_region_relR 22 (Only []) (fr := ?frh) (tl := ?tlh) (fun iq v wv => match iq with
      | 0 => v = .int .i64 (n : Nat)
      | 1 => v = .pointer (some ⟨g, 0, none⟩)
      | 2 => v = .pointer (some ⟨g, 0, none⟩)
      | 3 => v = .pointer (some ⟨g, 1, none⟩)
      | 4 => v = .slice A n c
      | 5 => v = .int .i64 (n : Nat)
      | 6 => v = .bool true
      | 7 => v = .bool true
      | 8 => v = undef
      | 9 => v = undef
      | 10 => v = undef
      | 11 => v = undef
      | 12 => v = undef
      | 13 => v = undef
      | 14 => v = undef
      | 15 => v = undef
      | 16 => v = undef
      | 17 => v = undef
      | 18 => v = undef
      | 19 => v = undef
      | 20 => v = undef
      | 21 => v = undef
      | _ => True) (.inl rfl) (by kernel_rfl) (by kernel_rfl) (by kernel_rfl) (by kernel_rfl) (by kernel_rfl) (by kernel_rfl) (by decide) ?htlh ?hfrh (Only.refl _ _) (fun _ _ _ h k => h.trans k (fun _ hx => .inl hx)) ?stabh ?stepsh ?doneh
    case htlh => simp only [List.drop_succ_cons, List.drop_zero]; rfl
    case hfrh => intro vals; simp only [putAll, dstAt, Act.put, List.getElem?_toArray, List.getElem?_cons_zero, List.getElem?_cons_succ, Option.bind_some, List.setIfInBounds_toArray, List.set_cons_zero, List.set_cons_succ]; rfl
    case stabh =>
      intro i v wa wb h
      try dsimp only
      split <;> first | exact id
    case stepsh =>
      refine ⟨?_, ?_, ?_, ?_, ?_, ?_, ?_, ?_, ?_, ?_, ?_, ?_, ?_, ?_, ?_, ?_, ?_, ?_, ?_, ?_, ?_, ?_, trivial⟩
      · intro vals wr hR hp K hK
        dsimp only at hK ⊢
        clear hp
        unfold RunsOp
        go_simp
        exact hK.out _ _ ⟨_, rfl, Only.refl _ _, rfl⟩
      · intro vals wr hR hp K hK
        dsimp only at hK ⊢
        clear hp
        unfold RunsOp
        go_simp
        exact hK.out _ _ ⟨_, rfl, Only.refl _ _, rfl⟩
      · intro vals wr hR hp K hK
        dsimp only at hK ⊢
        obtain ⟨p1, -⟩ := hp
        replace p1 := p1 rfl
        dsimp only at p1
        rw [p1] at hK ⊢
        clear p1
        unfold RunsOp
        go_simp
        exact hK.out _ _ ⟨_, rfl, Only.refl _ _, rfl⟩
      · intro vals wr hR hp K hK
        dsimp only at hK ⊢
        obtain ⟨p2, -⟩ := hp
        replace p2 := p2 rfl
        dsimp only at p2
        rw [p2] at hK ⊢
        clear p2
        unfold RunsOp
        go_simp
        exact hK.out _ _ ⟨_, rfl, Only.refl _ _, rfl⟩
      · intro vals wr hR hp K hK
        dsimp only at hK ⊢
        obtain ⟨p3, -⟩ := hp
        replace p3 := p3 rfl
        dsimp only at p3
        rw [p3] at hK ⊢
        clear p3
        unfold RunsOp
        have k0 := (hR.cell (p := ⟨g, 1, none⟩) HK.out.2.2 (by simp)).trans HK.out.2.1
        go_simp
        exact hK.out _ _ ⟨_, rfl, Only.refl _ _, rfl⟩
      · intro vals wr hR hp K hK
        dsimp only at hK ⊢
        obtain ⟨p4, -⟩ := hp
        replace p4 := p4 rfl
        dsimp only at p4
        rw [p4] at hK ⊢
        clear p4
        unfold RunsOp
        go_simp
        exact hK.out _ _ ⟨_, rfl, Only.refl _ _, rfl⟩
      · intro vals wr hR hp K hK
        dsimp only at hK ⊢
        obtain ⟨p0, p5, -⟩ := hp
        replace p0 := p0 rfl
        replace p5 := p5 rfl
        dsimp only at p0 p5
        rw [p0, p5] at hK ⊢
        clear p0 p5
        unfold RunsOp
        go_simp
        exact hK.out _ _ ⟨_, rfl, Only.refl _ _, rfl⟩
      · intro vals wr hR hp K hK
        dsimp only at hK ⊢
        obtain ⟨p6, -⟩ := hp
        replace p6 := p6 rfl
        dsimp only at p6
        rw [p6] at hK ⊢
        clear p6
        unfold RunsOp
        go_simp
        exact hK.out _ _ ⟨_, rfl, Only.refl _ _, rfl⟩
      · intro vals wr hR hp K hK
        dsimp only at hK ⊢
        obtain ⟨p7, -⟩ := hp
        replace p7 := p7 rfl
        dsimp only at p7
        rw [p7] at hK ⊢
        clear p7
        unfold RunsOp
        go_simp
        exact hK.out _ _ ⟨_, rfl, Only.refl _ _, rfl⟩
      · intro vals wr hR hp K hK
        dsimp only at hK ⊢
        obtain ⟨p8, p7, -⟩ := hp
        replace p8 := p8 rfl
        replace p7 := p7 rfl
        dsimp only at p8 p7
        rw [p8, p7] at hK ⊢
        clear p8 p7
        unfold RunsOp
        go_simp
        exact hK.out _ _ ⟨_, rfl, Only.refl _ _, rfl⟩
      · intro vals wr hR hp K hK
        dsimp only at hK ⊢
        obtain ⟨p9, p7, -⟩ := hp
        replace p9 := p9 rfl
        replace p7 := p7 rfl
        dsimp only at p9 p7
        rw [p9, p7] at hK ⊢
        clear p9 p7
        unfold RunsOp
        go_simp
        exact hK.out _ _ ⟨_, rfl, Only.refl _ _, rfl⟩
      · intro vals wr hR hp K hK
        dsimp only at hK ⊢
        obtain ⟨p10, p7, -⟩ := hp
        replace p10 := p10 rfl
        replace p7 := p7 rfl
        dsimp only at p10 p7
        rw [p10, p7] at hK ⊢
        clear p10 p7
        unfold RunsOp
        go_simp
        exact hK.out _ _ ⟨_, rfl, Only.refl _ _, rfl⟩
      · intro vals wr hR hp K hK
        dsimp only at hK ⊢
        obtain ⟨p7, -⟩ := hp
        replace p7 := p7 rfl
        dsimp only at p7
        rw [p7] at hK ⊢
        clear p7
        unfold RunsOp
        go_simp
        exact hK.out _ _ ⟨_, rfl, Only.refl _ _, rfl⟩
      · intro vals wr hR hp K hK
        dsimp only at hK ⊢
        obtain ⟨p12, p7, -⟩ := hp
        replace p12 := p12 rfl
        replace p7 := p7 rfl
        dsimp only at p12 p7
        rw [p12, p7] at hK ⊢
        clear p12 p7
        unfold RunsOp
        go_simp
        exact hK.out _ _ ⟨_, rfl, Only.refl _ _, rfl⟩
      · intro vals wr hR hp K hK
        dsimp only at hK ⊢
        obtain ⟨p13, p7, -⟩ := hp
        replace p13 := p13 rfl
        replace p7 := p7 rfl
        dsimp only at p13 p7
        rw [p13, p7] at hK ⊢
        clear p13 p7
        unfold RunsOp
        go_simp
        exact hK.out _ _ ⟨_, rfl, Only.refl _ _, rfl⟩
      · intro vals wr hR hp K hK
        dsimp only at hK ⊢
        obtain ⟨p14, p7, -⟩ := hp
        replace p14 := p14 rfl
        replace p7 := p7 rfl
        dsimp only at p14 p7
        rw [p14, p7] at hK ⊢
        clear p14 p7
        unfold RunsOp
        go_simp
        exact hK.out _ _ ⟨_, rfl, Only.refl _ _, rfl⟩
      · intro vals wr hR hp K hK
        dsimp only at hK ⊢
        obtain ⟨p7, -⟩ := hp
        replace p7 := p7 rfl
        dsimp only at p7
        rw [p7] at hK ⊢
        clear p7
        unfold RunsOp
        go_simp
        exact hK.out _ _ ⟨_, rfl, Only.refl _ _, rfl⟩
      · intro vals wr hR hp K hK
        dsimp only at hK ⊢
        obtain ⟨p15, p16, p7, -⟩ := hp
        replace p15 := p15 rfl
        replace p16 := p16 rfl
        replace p7 := p7 rfl
        dsimp only at p15 p16 p7
        rw [p15, p16, p7] at hK ⊢
        clear p15 p16 p7
        unfold RunsOp
        go_simp
        exact hK.out _ _ ⟨_, rfl, Only.refl _ _, rfl⟩
      · intro vals wr hR hp K hK
        dsimp only at hK ⊢
        obtain ⟨p17, p7, -⟩ := hp
        replace p17 := p17 rfl
        replace p7 := p7 rfl
        dsimp only at p17 p7
        rw [p17, p7] at hK ⊢
        clear p17 p7
        unfold RunsOp
        go_simp
        exact hK.out _ _ ⟨_, rfl, Only.refl _ _, rfl⟩
      · intro vals wr hR hp K hK
        dsimp only at hK ⊢
        obtain ⟨p7, -⟩ := hp
        replace p7 := p7 rfl
        dsimp only at p7
        rw [p7] at hK ⊢
        clear p7
        unfold RunsOp
        go_simp
        exact hK.out _ _ ⟨_, rfl, Only.refl _ _, rfl⟩
      · intro vals wr hR hp K hK
        dsimp only at hK ⊢
        obtain ⟨p11, p18, p19, p7, -, -⟩ := hp
        replace p11 := p11 rfl
        replace p18 := p18 rfl
        replace p19 := p19 rfl
        replace p7 := p7 rfl
        dsimp only at p11 p18 p19 p7
        rw [p11, p18, p19, p7] at hK ⊢
        clear p11 p18 p19 p7
        unfold RunsOp
        go_simp
        exact hK.out _ _ ⟨_, rfl, Only.refl _ _, rfl⟩
      · intro vals wr hR hp K hK
        dsimp only at hK ⊢
        obtain ⟨p20, p7, -⟩ := hp
        replace p20 := p20 rfl
        replace p7 := p7 rfl
        dsimp only at p20 p7
        rw [p20, p7] at hK ⊢
        clear p20 p7
        unfold RunsOp
        go_simp
        exact hK.out _ _ ⟨_, rfl, Only.refl _ _, rfl⟩
    case doneh =>
      intro vals wd hR hF
      have f7 : vals 7 = .bool true := hF 7 (by decide)
      have f21 : vals 21 = undef := hF 21 (by decide)
      rw [f7, f21]
      clear f7 f21
      have HO4 := Lib.hid (H0.out.trans (HOd.out.trans ((Only.refl [] wq).drew.trans hR (by simp)) (by simp)) (by simp))
      clear hR hF
      gi_wp2_with (fail)
      go_wp2_with (fail)
      go_ret
      exact ⟨rfl, HO4.out⟩
set_option maxHeartbeats 4000000 in
theorem dropnoJ {B : Nat} {w : World} {g : Nat} {L : List Ent} {A : Option Addr} {c : Nat} (hT : BBJ B w g L A c) (x : Ent) (hn : L.length ≤ 1000000) {i : Nat} {y : Ent} (hi : aheadB keyJ L (keyJ x) = i) (hy : L[i]? = some y) (hne : keyJ y ≠ keyJ x) :
    Calls Try.prog 26 #[.pointer (some ⟨g, 0, none⟩), .agg #[.int .i64 x.1, .int .i64 x.2]] w fun e w' => e = .returned (.bool false) ∧ Only [] w w' := by
  have hil : i < L.length := (List.getElem?_eq_some_iff.1 hy).1
  obtain ⟨b, hA, hb, -, c0, c1⟩ := own_cell rfl hT.row hy
  have HC := Lib.hid (And.intro hb (And.intro c0 c1))
  clear c0 c1
  subst hA
  have h0 : Only [] w (w.alloc (.cells #[.int .i64 x.1, .int .i64 x.2] 49)) := (Only.refl [] w).alloc _
  have hT2 := hT.keep h0
  have HG := Lib.hid hT2.blk.facts2
  have hr := own_rowC (by rw [len_flat2]) hT2.row
  have HP := Lib.hid (fun (W : World) (o : Only [] (w.alloc (.cells #[.int .i64 x.1, .int .i64 x.2] 49)) W) => aheadJ (x := x) (c := c) (hr.only o) rfl hn hT.srt)
  rw [hi] at HP
  obtain ⟨g0, g1, gl⟩ := hT.blk.facts2
  generalize L.length = n at *
  clear hT hy
  have hcz : (cmpZ (keyJ y) (keyJ x) != 0) = true := by
    unfold cmpZ
    split
    · rfl
    · split
      · rfl
      · exact absurd (by omega) hne
  have HBX := Lib.hid (Blk.new w 49 #[.int .i64 x.1, .int .i64 x.2]).facts2
  have H0 := Lib.hid h0
  clear hr hT2 h0 hi
  go_enter Try.func26, Try.ntmps26
  go_wp2_with (fail)
  refine (wpIn_wide (n := 9)).1 ?_
  refine wpIn_region_relR 11 (Only []) (fr := ?frg) (tl := ?tlg) (fun iq v wv => match iq with
    | 0 => v = .pointer (some ⟨g, 0, none⟩)
    | 1 => v = .pointer (some ⟨g, 0, none⟩)
    | 2 => v = .pointer (some ⟨g, 1, none⟩)
    | 3 => v = .slice (some ⟨b, 0, none⟩) n c
    | 4 => v = .agg #[.int .i64 x.1, .int .i64 x.2]
    | 5 => v = .pointer (some ⟨g, 0, none⟩)
    | 6 => v = .pointer (some ⟨g, 0, none⟩)
    | 7 => v = .pointer (some ⟨g, 0, none⟩)
    | 8 => v = .func (.func 22) #[] #[]
    | 9 => v = .int .i64 (i : Nat)
    | 10 => v = .int .i64 (i : Nat)
    | _ => True) (.inl rfl) (by kernel_rfl) (by kernel_rfl) (by kernel_rfl) (by kernel_rfl) (by kernel_rfl) (by kernel_rfl) (by decide) ?htlg ?hfrg (Only.refl _ _) (fun _ _ _ h k => h.trans k (fun _ hx => .inl hx)) ?stabg ?stepsg ?doneg
  case htlg => simp only [List.drop_succ_cons, List.drop_zero]; rfl
  case hfrg => intro vals; simp only [putAll, dstAt, Act.put, List.getElem?_toArray, List.getElem?_cons_zero, List.getElem?_cons_succ, Option.bind_some, List.setIfInBounds_toArray, List.set_cons_zero, List.set_cons_succ]; rfl
  case stabg =>
    intro i v wa wb h
    try dsimp only
    split <;> first | exact id
  case stepsg =>
    refine ⟨?_, ?_, ?_, ?_, ?_, ?_, ?_, ?_, ?_, ?_, ?_, trivial⟩
    · intro vals wr hR hp K hK
      dsimp only at hK ⊢
      clear hp
      unfold RunsOp
      go_simp
      exact hK.out _ _ ⟨_, rfl, Only.refl _ _, rfl⟩
    · intro vals wr hR hp K hK
      dsimp only at hK ⊢
      obtain ⟨p0, -⟩ := hp
      replace p0 := p0 rfl
      dsimp only at p0
      rw [p0] at hK ⊢
      clear p0
      unfold RunsOp
      go_simp
      exact hK.out _ _ ⟨_, rfl, Only.refl _ _, rfl⟩
    · intro vals wr hR hp K hK
      dsimp only at hK ⊢
      obtain ⟨p1, -⟩ := hp
      replace p1 := p1 rfl
      dsimp only at p1
      rw [p1] at hK ⊢
      clear p1
      unfold RunsOp
      go_simp
      exact hK.out _ _ ⟨_, rfl, Only.refl _ _, rfl⟩
    · intro vals wr hR hp K hK
      dsimp only at hK ⊢
      obtain ⟨p2, -⟩ := hp
      replace p2 := p2 rfl
      dsimp only at p2
      rw [p2] at hK ⊢
      clear p2
      unfold RunsOp
      have k0 := (hR.cell (p := ⟨g, 1, none⟩) HG.out.2.2 (by simp)).trans HG.out.2.1
      go_simp
      exact hK.out _ _ ⟨_, rfl, Only.refl _ _, rfl⟩
    · intro vals wr hR hp K hK
      dsimp only at hK ⊢
      clear hp
      unfold RunsOp
      have k0 := (hR.cell (p := ⟨w.heap.size, 0, none⟩) HBX.out.2.2 (by simp)).trans HBX.out.1
      have k1 := (hR.cell (p := ⟨w.heap.size, 1, none⟩) HBX.out.2.2 (by simp)).trans HBX.out.2.1
      go_simp
      exact hK.out _ _ ⟨_, rfl, Only.refl _ _, rfl⟩
    · intro vals wr hR hp K hK
      dsimp only at hK ⊢
      clear hp
      unfold RunsOp
      go_simp
      exact hK.out _ _ ⟨_, rfl, Only.refl _ _, rfl⟩
    · intro vals wr hR hp K hK
      dsimp only at hK ⊢
      obtain ⟨p5, -⟩ := hp
      replace p5 := p5 rfl
      dsimp only at p5
      rw [p5] at hK ⊢
      clear p5
      unfold RunsOp
      go_simp
      exact hK.out _ _ ⟨_, rfl, Only.refl _ _, rfl⟩
    · intro vals wr hR hp K hK
      dsimp only at hK ⊢
      obtain ⟨p6, -⟩ := hp
      replace p6 := p6 rfl
      dsimp only at p6
      rw [p6] at hK ⊢
      clear p6
      unfold RunsOp
      go_simp
      exact hK.out _ _ ⟨_, rfl, Only.refl _ _, rfl⟩
    · intro vals wr hR hp K hK
      dsimp only at hK ⊢
      obtain ⟨p7, -⟩ := hp
      replace p7 := p7 rfl
      dsimp only at p7
      rw [p7] at hK ⊢
      clear p7
      unfold RunsOp
      have k0 := (hR.cell (p := ⟨g, 0, none⟩) HG.out.2.2 (by simp)).trans HG.out.1
      go_simp
      exact hK.out _ _ ⟨_, rfl, Only.refl _ _, rfl⟩
    · intro vals wr hR hp K hK
      dsimp only at hK ⊢
      obtain ⟨p3, p4, p8, -⟩ := hp
      replace p3 := p3 rfl
      replace p4 := p4 rfl
      replace p8 := p8 rfl
      dsimp only at p3 p4 p8
      rw [p3, p4, p8] at hK ⊢
      clear p3 p4 p8
      unfold RunsOp
      go_simp
      refine (HP.out _ ((Only.refl [] _).drew.trans hR (by simp))).mono ?_
      rintro e' w2 ⟨rfl, o2⟩
      exact hK.out _ _ ⟨_, rfl, o2, rfl⟩
    · intro vals wr hR hp K hK
      dsimp only at hK ⊢
      obtain ⟨p9, -, -, -, -, -, -, -, -, -, -, -, -⟩ := hp
      replace p9 := p9 rfl
      dsimp only at p9
      rw [p9] at hK ⊢
      clear p9
      unfold RunsOp
      go_simp
      exact hK.out _ _ ⟨_, rfl, Only.refl _ _, rfl⟩
  case doneg =>
    intro vals wd hR hF
    have f10 : vals 10 = .int .i64 (i : Nat) := hF 10 (by decide)
    rw [f10]
    clear f10
    have HOd := Lib.hid (((Only.refl [] (w.alloc (.cells #[.int .i64 x.1, .int .i64 x.2] 49))).drew.trans hR (by simp)))
    have k0 := (hR.cell (p := ⟨g, 0, none⟩) HG.out.2.2 (by simp)).trans HG.out.1
    have k1 := (hR.cell (p := ⟨g, 1, none⟩) HG.out.2.2 (by simp)).trans HG.out.2.1
    have HK := Lib.hid (And.intro k0 (And.intro k1 (Nat.lt_of_lt_of_le HG.out.2.2 HOd.out.size)))
    clear hR hF g0 g1 gl
    obtain ⟨wq, rfl⟩ : ∃ wq : World, wq = wd := ⟨_, rfl⟩
    have HBX2 := Lib.hid (show wq.cell? ⟨w.heap.size, 0, none⟩ = some (.int .i64 x.1) ∧ wq.cell? ⟨w.heap.size, 1, none⟩ = some (.int .i64 x.2) ∧ w.heap.size < wq.heap.size from ⟨(HOd.out.cell (p := ⟨w.heap.size, 0, none⟩) HBX.out.2.2 (by simp)).trans HBX.out.1, (HOd.out.cell (p := ⟨w.heap.size, 1, none⟩) HBX.out.2.2 (by simp)).trans HBX.out.2.1, Nat.lt_of_lt_of_le HBX.out.2.2 HOd.out.size⟩)
    gi_wp2_with (fail)
    go_wp2_with (fail)
    clear k0 k1
    refine (wpIn_wide (n := 9)).1 ?_
    refine wpIn_region_relR 22 (Only []) (fr := ?frh) (tl := ?tlh) (fun iq v wv => match iq with
      | 0 => v = .int .i64 (i : Nat)
      | 1 => v = .pointer (some ⟨g, 0, none⟩)
      | 2 => v = .pointer (some ⟨g, 0, none⟩)
      | 3 => v = .pointer (some ⟨g, 1, none⟩)
      | 4 => v = .slice (some ⟨b, 0, none⟩) n c
      | 5 => v = .int .i64 (n : Nat)
      | 6 => v = .bool false
      | 7 => v = .bool false
      | 8 => v = .pointer (some ⟨g, 0, none⟩)
      | 9 => v = .pointer (some ⟨g, 0, none⟩)
      | 10 => v = .pointer (some ⟨g, 0, none⟩)
      | 11 => v = .func (.func 22) #[] #[]
      | 12 => v = .pointer (some ⟨g, 0, none⟩)
      | 13 => v = .pointer (some ⟨g, 0, none⟩)
      | 14 => v = .pointer (some ⟨g, 1, none⟩)
      | 15 => v = .slice (some ⟨b, 0, none⟩) n c
      | 16 => v = .int .i64 (i : Nat)
      | 17 => v = .pointer (some ⟨b, i * 2, none⟩)
      | 18 => v = .agg #[.int .i64 y.1, .int .i64 y.2]
      | 19 => v = .agg #[.int .i64 x.1, .int .i64 x.2]
      | 20 => v = .int .i64 (cmpZ (keyJ y) (keyJ x))
      | 21 => v = .bool true
      | _ => True) (.inl rfl) (by kernel_rfl) (by kernel_rfl) (by kernel_rfl) (by kernel_rfl) (by kernel_rfl) (by kernel_rfl) (by decide) ?htlh ?hfrh (Only.refl _ _) (fun _ _ _ h k => h.trans k (fun _ hx => .inl hx)) ?stabh ?stepsh ?doneh
    case htlh => simp only [List.drop_succ_cons, List.drop_zero]; rfl
    case hfrh => intro vals; simp only [putAll, dstAt, Act.put, List.getElem?_toArray, List.getElem?_cons_zero, List.getElem?_cons_succ, Option.bind_some, List.setIfInBounds_toArray, List.set_cons_zero, List.set_cons_succ]; rfl
    case stabh =>
      intro i v wa wb h
      try dsimp only
      split <;> first | exact id
    case stepsh =>
      refine ⟨?_, ?_, ?_, ?_, ?_, ?_, ?_, ?_, ?_, ?_, ?_, ?_, ?_, ?_, ?_, ?_, ?_, ?_, ?_, ?_, ?_, ?_, trivial⟩
      · intro vals wr hR hp K hK
        dsimp only at hK ⊢
        clear hp
        unfold RunsOp
        go_simp
        exact hK.out _ _ ⟨_, rfl, Only.refl _ _, rfl⟩
      · intro vals wr hR hp K hK
        dsimp only at hK ⊢
        clear hp
        unfold RunsOp
        go_simp
        exact hK.out _ _ ⟨_, rfl, Only.refl _ _, rfl⟩
      · intro vals wr hR hp K hK
        dsimp only at hK ⊢
        obtain ⟨p1, -⟩ := hp
        replace p1 := p1 rfl
        dsimp only at p1
        rw [p1] at hK ⊢
        clear p1
        unfold RunsOp
        go_simp
        exact hK.out _ _ ⟨_, rfl, Only.refl _ _, rfl⟩
      · intro vals wr hR hp K hK
        dsimp only at hK ⊢
        obtain ⟨p2, -⟩ := hp
        replace p2 := p2 rfl
        dsimp only at p2
        rw [p2] at hK ⊢
        clear p2
        unfold RunsOp
        go_simp
        exact hK.out _ _ ⟨_, rfl, Only.refl _ _, rfl⟩
      · intro vals wr hR hp K hK
        dsimp only at hK ⊢
        obtain ⟨p3, -⟩ := hp
        replace p3 := p3 rfl
        dsimp only at p3
        rw [p3] at hK ⊢
        clear p3
        unfold RunsOp
        have k0 := (hR.cell (p := ⟨g, 1, none⟩) HK.out.2.2 (by simp)).trans HK.out.2.1
        go_simp
        exact hK.out _ _ ⟨_, rfl, Only.refl _ _, rfl⟩
      · intro vals wr hR hp K hK
        dsimp only at hK ⊢
        obtain ⟨p4, -⟩ := hp
        replace p4 := p4 rfl
        dsimp only at p4
        rw [p4] at hK ⊢
        clear p4
        unfold RunsOp
        go_simp
        exact hK.out _ _ ⟨_, rfl, Only.refl _ _, rfl⟩
      · intro vals wr hR hp K hK
        dsimp only at hK ⊢
        obtain ⟨p0, p5, -⟩ := hp
        replace p0 := p0 rfl
        replace p5 := p5 rfl
        dsimp only at p0 p5
        rw [p0, p5] at hK ⊢
        clear p0 p5
        unfold RunsOp
        have hb : (((i : Nat) : Int) == ((n : Nat) : Int)) = false := beq_eq_false_iff_ne.2 (by omega)
        go_simp
        exact hK.out _ _ ⟨_, rfl, Only.refl _ _, rfl⟩
      · intro vals wr hR hp K hK
        dsimp only at hK ⊢
        obtain ⟨p6, -⟩ := hp
        replace p6 := p6 rfl
        dsimp only at p6
        rw [p6] at hK ⊢
        clear p6
        unfold RunsOp
        go_simp
        exact hK.out _ _ ⟨_, rfl, Only.refl _ _, rfl⟩
      · intro vals wr hR hp K hK
        dsimp only at hK ⊢
        obtain ⟨p7, -⟩ := hp
        replace p7 := p7 rfl
        dsimp only at p7
        rw [p7] at hK ⊢
        clear p7
        unfold RunsOp
        go_simp
        exact hK.out _ _ ⟨_, rfl, Only.refl _ _, rfl⟩
      · intro vals wr hR hp K hK
        dsimp only at hK ⊢
        obtain ⟨p8, p7, -⟩ := hp
        replace p8 := p8 rfl
        replace p7 := p7 rfl
        dsimp only at p8 p7
        rw [p8, p7] at hK ⊢
        clear p8 p7
        unfold RunsOp
        go_simp
        exact hK.out _ _ ⟨_, rfl, Only.refl _ _, rfl⟩
      · intro vals wr hR hp K hK
        dsimp only at hK ⊢
        obtain ⟨p9, p7, -⟩ := hp
        replace p9 := p9 rfl
        replace p7 := p7 rfl
        dsimp only at p9 p7
        rw [p9, p7] at hK ⊢
        clear p9 p7
        unfold RunsOp
        go_simp
        exact hK.out _ _ ⟨_, rfl, Only.refl _ _, rfl⟩
      · intro vals wr hR hp K hK
        dsimp only at hK ⊢
        obtain ⟨p10, p7, -⟩ := hp
        replace p10 := p10 rfl
        replace p7 := p7 rfl
        dsimp only at p10 p7
        rw [p10, p7] at hK ⊢
        clear p10 p7
        unfold RunsOp
        have k0 := (hR.cell (p := ⟨g, 0, none⟩) HK.out.2.2 (by simp)).trans HK.out.1
        go_simp
        exact hK.out _ _ ⟨_, rfl, Only.refl _ _, rfl⟩
      · intro vals wr hR hp K hK
        dsimp only at hK ⊢
        obtain ⟨p7, -⟩ := hp
        replace p7 := p7 rfl
        dsimp only at p7
        rw [p7] at hK ⊢
        clear p7
        unfold RunsOp
        go_simp
        exact hK.out _ _ ⟨_, rfl, Only.refl _ _, rfl⟩
      · intro vals wr hR hp K hK
        dsimp only at hK ⊢
        obtain ⟨p12, p7, -⟩ := hp
        replace p12 := p12 rfl
        replace p7 := p7 rfl
        dsimp only at p12 p7
        rw [p12, p7] at hK ⊢
        clear p12 p7
        unfold RunsOp
        go_simp
        exact hK.out _ _ ⟨_, rfl, Only.refl _ _, rfl⟩
      · intro vals wr hR hp K hK
        dsimp only at hK ⊢
        obtain ⟨p13, p7, -⟩ := hp
        replace p13 := p13 rfl
        replace p7 := p7 rfl
        dsimp only at p13 p7
        rw [p13, p7] at hK ⊢
        clear p13 p7
        unfold RunsOp
        go_simp
        exact hK.out _ _ ⟨_, rfl, Only.refl _ _, rfl⟩
      · intro vals wr hR hp K hK
        dsimp only at hK ⊢
        obtain ⟨p14, p7, -⟩ := hp
        replace p14 := p14 rfl
        replace p7 := p7 rfl
        dsimp only at p14 p7
        rw [p14, p7] at hK ⊢
        clear p14 p7
        unfold RunsOp
        have k0 := (hR.cell (p := ⟨g, 1, none⟩) HK.out.2.2 (by simp)).trans HK.out.2.1
        go_simp
        exact hK.out _ _ ⟨_, rfl, Only.refl _ _, rfl⟩
      · intro vals wr hR hp K hK
        dsimp only at hK ⊢
        obtain ⟨p7, -⟩ := hp
        replace p7 := p7 rfl
        dsimp only at p7
        rw [p7] at hK ⊢
        clear p7
        unfold RunsOp
        go_simp
        exact hK.out _ _ ⟨_, rfl, Only.refl _ _, rfl⟩
      · intro vals wr hR hp K hK
        dsimp only at hK ⊢
        obtain ⟨p15, p16, p7, -⟩ := hp
        replace p15 := p15 rfl
        replace p16 := p16 rfl
        replace p7 := p7 rfl
        dsimp only at p15 p16 p7
        rw [p15, p16, p7] at hK ⊢
        clear p15 p16 p7
        unfold RunsOp
        have i0 : (0 : Int) ≤ (i : Int) := by omega
        have i1 : (i : Int) < (n : Int) := by omega
        go_simp
        exact hK.out _ _ ⟨_, rfl, Only.refl _ _, rfl⟩
      · intro vals wr hR hp K hK
        dsimp only at hK ⊢
        obtain ⟨p17, p7, -⟩ := hp
        replace p17 := p17 rfl
        replace p7 := p7 rfl
        dsimp only at p17 p7
        rw [p17, p7] at hK ⊢
        clear p17 p7
        unfold RunsOp
        have q0 := (hR.cell (p := ⟨b, i * 2, none⟩) (show b < wq.heap.size from Nat.lt_of_lt_of_le HC.out.1 (Nat.le_trans H0.out.size HOd.out.size)) (by simp)).trans ((HOd.out.cell (p := ⟨b, i * 2, none⟩) (show b < _ from Nat.lt_of_lt_of_le HC.out.1 H0.out.size) (by simp)).trans ((H0.out.cell (p := ⟨b, i * 2, none⟩) HC.out.1 (by simp)).trans HC.out.2.1))
        have q1 := (hR.cell (p := ⟨b, i * 2 + 1, none⟩) (show b < wq.heap.size from Nat.lt_of_lt_of_le HC.out.1 (Nat.le_trans H0.out.size HOd.out.size)) (by simp)).trans ((HOd.out.cell (p := ⟨b, i * 2 + 1, none⟩) (show b < _ from Nat.lt_of_lt_of_le HC.out.1 H0.out.size) (by simp)).trans ((H0.out.cell (p := ⟨b, i * 2 + 1, none⟩) HC.out.1 (by simp)).trans HC.out.2.2))
        go_simp
        exact hK.out _ _ ⟨_, rfl, Only.refl _ _, rfl⟩
      · intro vals wr hR hp K hK
        dsimp only at hK ⊢
        obtain ⟨p7, -⟩ := hp
        replace p7 := p7 rfl
        dsimp only at p7
        rw [p7] at hK ⊢
        clear p7
        unfold RunsOp
        have k0 := (hR.cell (p := ⟨w.heap.size, 0, none⟩) HBX2.out.2.2 (by simp)).trans HBX2.out.1
        have k1 := (hR.cell (p := ⟨w.heap.size, 1, none⟩) HBX2.out.2.2 (by simp)).trans HBX2.out.2.1
        go_simp
        exact hK.out _ _ ⟨_, rfl, Only.refl _ _, rfl⟩
      · intro vals wr hR hp K hK
        dsimp only at hK ⊢
        obtain ⟨p11, p18, p19, p7, -, -⟩ := hp
        replace p11 := p11 rfl
        replace p18 := p18 rfl
        replace p19 := p19 rfl
        replace p7 := p7 rfl
        dsimp only at p11 p18 p19 p7
        rw [p11, p18, p19, p7] at hK ⊢
        clear p11 p18 p19 p7
        unfold RunsOp
        go_simp
        refine (level_any y.1 y.2 x.1 x.2 _).mono ?_
        rintro e' w2 ⟨rfl, o2⟩
        exact hK.out _ _ ⟨_, rfl, o2, rfl⟩
      · intro vals wr hR hp K hK
        dsimp only at hK ⊢
        obtain ⟨p20, p7, -⟩ := hp
        replace p20 := p20 rfl
        replace p7 := p7 rfl
        dsimp only at p20 p7
        rw [p20, p7] at hK ⊢
        clear p20 p7
        unfold RunsOp
        go_simp
        exact hK.out _ _ ⟨_, rfl, Only.refl _ _, rfl⟩
    case doneh =>
      intro vals wd hR hF
      have f7 : vals 7 = .bool false := hF 7 (by decide)
      have f21 : vals 21 = .bool true := hF 21 (by decide)
      rw [f7, f21]
      clear f7 f21
      have HO4 := Lib.hid (H0.out.trans (HOd.out.trans ((Only.refl [] wq).drew.trans hR (by simp)) (by simp)) (by simp))
      clear hR hF
      gi_wp2_with (fail)
      go_wp2_with (fail)
      go_ret
      exact ⟨rfl, HO4.out⟩
set_option maxHeartbeats 4000000 in
theorem dropyesJ {B : Nat} {w : World} {g : Nat} {L : List Ent} {A : Option Addr} {c : Nat} (hT : BBJ B w g L A c) (x : Ent) (hn : L.length ≤ 1000000) {i : Nat} {y : Ent} (hi : aheadB keyJ L (keyJ x) = i) (hy : L[i]? = some y) (hne : keyJ y = keyJ x) (hB : B ≤ w.heap.size) (hci : (c == i + 1) = false) :
    Calls Try.prog 26 #[.pointer (some ⟨g, 0, none⟩), .agg #[.int .i64 x.1, .int .i64 x.2]] w fun e w' => e = .returned (.bool true) ∧ (∃ A' c', BBJ B w' g (L.take i ++ L.drop (i + 1)) A' c') ∧ Only [g] w w' := by
  have hil : i < L.length := (List.getElem?_eq_some_iff.1 hy).1
  obtain ⟨b, hA, hb, -, c0, c1⟩ := own_cell rfl hT.row hy
  have HC := Lib.hid (And.intro hb (And.intro c0 c1))
  clear c0 c1
  subst hA
  have hlc : L.length ≤ c := by
    rcases own_form hT.row with ⟨h, _⟩ | ⟨_, h⟩
    · cases h
    · exact h
  have hcn : c ≠ i + 1 := by simpa using hci
  clear hci
  have h0 : Only [] w (w.alloc (.cells #[.int .i64 x.1, .int .i64 x.2] 49)) := (Only.refl [] w).alloc _
  have hT2 := hT.keep h0
  have HG := Lib.hid hT2.blk.facts2
  have hr := own_rowC (by rw [len_flat2]) hT2.row
  have HP := Lib.hid (fun (W : World) (o : Only [] (w.alloc (.cells #[.int .i64 x.1, .int .i64 x.2] 49)) W) => aheadJ (x := x) (c := c) (hr.only o) rfl hn hT.srt)
  rw [hi] at HP
  obtain ⟨g0, g1, gl⟩ := hT.blk.facts2
  have HT := Lib.hid (And.intro hT hy)
  have hcz : (cmpZ (keyJ y) (keyJ x) != 0) = false := by
    have e : cmpZ (keyJ y) (keyJ x) = 0 := by unfold cmpZ; rw [hne]; simp
    rw [e]; rfl
  have HB := Lib.hid hB
  clear hT hy hB hne
  obtain ⟨n, hL⟩ : ∃ n, L.length = n := ⟨_, rfl⟩
  have HLN := Lib.hid hL
  rw [hL] at HP HG g1 hn hil hlc
  clear hL
  have HBX := Lib.hid (Blk.new w 49 #[.int .i64 x.1, .int .i64 x.2]).facts2
  have H0 := Lib.hid h0
  clear hr hT2 h0 hi
  go_enter Try.func26, Try.ntmps26
  go_wp2_with (fail)
  refine (wpIn_wide (n := 9)).1 ?_
  refine wpIn_region_relR 11 (Only []) (fr := ?frg) (tl := ?tlg) (fun iq v wv => match iq with
    | 0 => v = .pointer (some ⟨g, 0, none⟩)
    | 1 => v = .pointer (some ⟨g, 0, none⟩)
    | 2 => v = .pointer (some ⟨g, 1, none⟩)
    | 3 => v = .slice (some ⟨b, 0, none⟩) n c
    | 4 => v = .agg #[.int .i64 x.1, .int .i64 x.2]
    | 5 => v = .pointer (some ⟨g, 0, none⟩)
    | 6 => v = .pointer (some ⟨g, 0, none⟩)
    | 7 => v = .pointer (some ⟨g, 0, none⟩)
    | 8 => v = .func (.func 22) #[] #[]
    | 9 => v = .int .i64 (i : Nat)
    | 10 => v = .int .i64 (i : Nat)
    | _ => True) (.inl rfl) (by kernel_rfl) (by kernel_rfl) (by kernel_rfl) (by kernel_rfl) (by kernel_rfl) (by kernel_rfl) (by decide) ?htlg ?hfrg (Only.refl _ _) (fun _ _ _ h k => h.trans k (fun _ hx => .inl hx)) ?stabg ?stepsg ?doneg
  case htlg => simp only [List.drop_succ_cons, List.drop_zero]; rfl
  case hfrg => intro vals; simp only [putAll, dstAt, Act.put, List.getElem?_toArray, List.getElem?_cons_zero, List.getElem?_cons_succ, Option.bind_some, List.setIfInBounds_toArray, List.set_cons_zero, List.set_cons_succ]; rfl
  case stabg =>
    intro i v wa wb h
    try dsimp only
    split <;> first | exact id
  case stepsg =>
    refine ⟨?_, ?_, ?_, ?_, ?_, ?_, ?_, ?_, ?_, ?_, ?_, trivial⟩
    · intro vals wr hR hp K hK
      dsimp only at hK ⊢
      clear hp
      unfold RunsOp
      go_simp
      exact hK.out _ _ ⟨_, rfl, Only.refl _ _, rfl⟩
    · intro vals wr hR hp K hK
      dsimp only at hK ⊢
      obtain ⟨p0, -⟩ := hp
      replace p0 := p0 rfl
      dsimp only at p0
      rw [p0] at hK ⊢
      clear p0
      unfold RunsOp
      go_simp
      exact hK.out _ _ ⟨_, rfl, Only.refl _ _, rfl⟩
    · intro vals wr hR hp K hK
      dsimp only at hK ⊢
      obtain ⟨p1, -⟩ := hp
      replace p1 := p1 rfl
      dsimp only at p1
      rw [p1] at hK ⊢
      clear p1
      unfold RunsOp
      go_simp
      exact hK.out _ _ ⟨_, rfl, Only.refl _ _, rfl⟩
    · intro vals wr hR hp K hK
      dsimp only at hK ⊢
      obtain ⟨p2, -⟩ := hp
      replace p2 := p2 rfl
      dsimp only at p2
      rw [p2] at hK ⊢
      clear p2
      unfold RunsOp
      have k0 := (hR.cell (p := ⟨g, 1, none⟩) HG.out.2.2 (by simp)).trans HG.out.2.1
      go_simp
      exact hK.out _ _ ⟨_, rfl, Only.refl _ _, rfl⟩
    · intro vals wr hR hp K hK
      dsimp only at hK ⊢
      clear hp
      unfold RunsOp
      have k0 := (hR.cell (p := ⟨w.heap.size, 0, none⟩) HBX.out.2.2 (by simp)).trans HBX.out.1
      have k1 := (hR.cell (p := ⟨w.heap.size, 1, none⟩) HBX.out.2.2 (by simp)).trans HBX.out.2.1
      go_simp
      exact hK.out _ _ ⟨_, rfl, Only.refl _ _, rfl⟩
    · intro vals wr hR hp K hK
      dsimp only at hK ⊢
      clear hp
      unfold RunsOp
      go_simp
      exact hK.out _ _ ⟨_, rfl, Only.refl _ _, rfl⟩
    · intro vals wr hR hp K hK
      dsimp only at hK ⊢
      obtain ⟨p5, -⟩ := hp
      replace p5 := p5 rfl
      dsimp only at p5
      rw [p5] at hK ⊢
      clear p5
      unfold RunsOp
      go_simp
      exact hK.out _ _ ⟨_, rfl, Only.refl _ _, rfl⟩
    · intro vals wr hR hp K hK
      dsimp only at hK ⊢
      obtain ⟨p6, -⟩ := hp
      replace p6 := p6 rfl
      dsimp only at p6
      rw [p6] at hK ⊢
      clear p6
      unfold RunsOp
      go_simp
      exact hK.out _ _ ⟨_, rfl, Only.refl _ _, rfl⟩
    · intro vals wr hR hp K hK
      dsimp only at hK ⊢
      obtain ⟨p7, -⟩ := hp
      replace p7 := p7 rfl
      dsimp only at p7
      rw [p7] at hK ⊢
      clear p7
      unfold RunsOp
      have k0 := (hR.cell (p := ⟨g, 0, none⟩) HG.out.2.2 (by simp)).trans HG.out.1
      go_simp
      exact hK.out _ _ ⟨_, rfl, Only.refl _ _, rfl⟩
    · intro vals wr hR hp K hK
      dsimp only at hK ⊢
      obtain ⟨p3, p4, p8, -⟩ := hp
      replace p3 := p3 rfl
      replace p4 := p4 rfl
      replace p8 := p8 rfl
      dsimp only at p3 p4 p8
      rw [p3, p4, p8] at hK ⊢
      clear p3 p4 p8
      unfold RunsOp
      go_simp
      refine (HP.out _ ((Only.refl [] _).drew.trans hR (by simp))).mono ?_
      rintro e' w2 ⟨rfl, o2⟩
      exact hK.out _ _ ⟨_, rfl, o2, rfl⟩
    · intro vals wr hR hp K hK
      dsimp only at hK ⊢
      obtain ⟨p9, -, -, -, -, -, -, -, -, -, -, -, -⟩ := hp
      replace p9 := p9 rfl
      dsimp only at p9
      rw [p9] at hK ⊢
      clear p9
      unfold RunsOp
      go_simp
      exact hK.out _ _ ⟨_, rfl, Only.refl _ _, rfl⟩
  case doneg =>
    intro vals wd hR hF
    have f10 : vals 10 = .int .i64 (i : Nat) := hF 10 (by decide)
    rw [f10]
    clear f10
    have HOd := Lib.hid (((Only.refl [] (w.alloc (.cells #[.int .i64 x.1, .int .i64 x.2] 49))).drew.trans hR (by simp)))
    have k0 := (hR.cell (p := ⟨g, 0, none⟩) HG.out.2.2 (by simp)).trans HG.out.1
    have k1 := (hR.cell (p := ⟨g, 1, none⟩) HG.out.2.2 (by simp)).trans HG.out.2.1
    have HK := Lib.hid (And.intro k0 (And.intro k1 (Nat.lt_of_lt_of_le HG.out.2.2 HOd.out.size)))
    clear hR hF g0 g1 gl
    obtain ⟨wq, rfl⟩ : ∃ wq : World, wq = wd := ⟨_, rfl⟩
    have HBX2 := Lib.hid (show wq.cell? ⟨w.heap.size, 0, none⟩ = some (.int .i64 x.1) ∧ wq.cell? ⟨w.heap.size, 1, none⟩ = some (.int .i64 x.2) ∧ w.heap.size < wq.heap.size from ⟨(HOd.out.cell (p := ⟨w.heap.size, 0, none⟩) HBX.out.2.2 (by simp)).trans HBX.out.1, (HOd.out.cell (p := ⟨w.heap.size, 1, none⟩) HBX.out.2.2 (by simp)).trans HBX.out.2.1, Nat.lt_of_lt_of_le HBX.out.2.2 HOd.out.size⟩)
    gi_wp2_with (fail)
    go_wp2_with (fail)
    clear k0 k1
    refine (wpIn_wide (n := 9)).1 ?_
    refine wpIn_region_relR 22 (Only []) (fr := ?frh) (tl := ?tlh) (fun iq v wv => match iq with
      | 0 => v = .int .i64 (i : Nat)
      | 1 => v = .pointer (some ⟨g, 0, none⟩)
      | 2 => v = .pointer (some ⟨g, 0, none⟩)
      | 3 => v = .pointer (some ⟨g, 1, none⟩)
      | 4 => v = .slice (some ⟨b, 0, none⟩) n c
      | 5 => v = .int .i64 (n : Nat)
      | 6 => v = .bool false
      | 7 => v = .bool false
      | 8 => v = .pointer (some ⟨g, 0, none⟩)
      | 9 => v = .pointer (some ⟨g, 0, none⟩)
      | 10 => v = .pointer (some ⟨g, 0, none⟩)
      | 11 => v = .func (.func 22) #[] #[]
      | 12 => v = .pointer (some ⟨g, 0, none⟩)
      | 13 => v = .pointer (some ⟨g, 0, none⟩)
      | 14 => v = .pointer (some ⟨g, 1, none⟩)
      | 15 => v = .slice (some ⟨b, 0, none⟩) n c
      | 16 => v = .int .i64 (i : Nat)
      | 17 => v = .pointer (some ⟨b, i * 2, none⟩)
      | 18 => v = .agg #[.int .i64 y.1, .int .i64 y.2]
      | 19 => v = .agg #[.int .i64 x.1, .int .i64 x.2]
      | 20 => v = .int .i64 (cmpZ (keyJ y) (keyJ x))
      | 21 => v = .bool false
      | _ => True) (.inl rfl) (by kernel_rfl) (by kernel_rfl) (by kernel_rfl) (by kernel_rfl) (by kernel_rfl) (by kernel_rfl) (by decide) ?htlh ?hfrh (Only.refl _ _) (fun _ _ _ h k => h.trans k (fun _ hx => .inl hx)) ?stabh ?stepsh ?doneh
    case htlh => simp only [List.drop_succ_cons, List.drop_zero]; rfl
    case hfrh => intro vals; simp only [putAll, dstAt, Act.put, List.getElem?_toArray, List.getElem?_cons_zero, List.getElem?_cons_succ, Option.bind_some, List.setIfInBounds_toArray, List.set_cons_zero, List.set_cons_succ]; rfl
    case stabh =>
      intro i v wa wb h
      try dsimp only
      split <;> first | exact id
    case stepsh =>
      refine ⟨?_, ?_, ?_, ?_, ?_, ?_, ?_, ?_, ?_, ?_, ?_, ?_, ?_, ?_, ?_, ?_, ?_, ?_, ?_, ?_, ?_, ?_, trivial⟩
      · intro vals wr hR hp K hK
        dsimp only at hK ⊢
        clear hp
        unfold RunsOp
        go_simp
        exact hK.out _ _ ⟨_, rfl, Only.refl _ _, rfl⟩
      · intro vals wr hR hp K hK
        dsimp only at hK ⊢
        clear hp
        unfold RunsOp
        go_simp
        exact hK.out _ _ ⟨_, rfl, Only.refl _ _, rfl⟩
      · intro vals wr hR hp K hK
        dsimp only at hK ⊢
        obtain ⟨p1, -⟩ := hp
        replace p1 := p1 rfl
        dsimp only at p1
        rw [p1] at hK ⊢
        clear p1
        unfold RunsOp
        go_simp
        exact hK.out _ _ ⟨_, rfl, Only.refl _ _, rfl⟩
      · intro vals wr hR hp K hK
        dsimp only at hK ⊢
        obtain ⟨p2, -⟩ := hp
        replace p2 := p2 rfl
        dsimp only at p2
        rw [p2] at hK ⊢
        clear p2
        unfold RunsOp
        go_simp
        exact hK.out _ _ ⟨_, rfl, Only.refl _ _, rfl⟩
      · intro vals wr hR hp K hK
        dsimp only at hK ⊢
        obtain ⟨p3, -⟩ := hp
        replace p3 := p3 rfl
        dsimp only at p3
        rw [p3] at hK ⊢
        clear p3
        unfold RunsOp
        have k0 := (hR.cell (p := ⟨g, 1, none⟩) HK.out.2.2 (by simp)).trans HK.out.2.1
        go_simp
        exact hK.out _ _ ⟨_, rfl, Only.refl _ _, rfl⟩
      · intro vals wr hR hp K hK
        dsimp only at hK ⊢
        obtain ⟨p4, -⟩ := hp
        replace p4 := p4 rfl
        dsimp only at p4
        rw [p4] at hK ⊢
        clear p4
        unfold RunsOp
        go_simp
        exact hK.out _ _ ⟨_, rfl, Only.refl _ _, rfl⟩
      · intro vals wr hR hp K hK
        dsimp only at hK ⊢
        obtain ⟨p0, p5, -⟩ := hp
        replace p0 := p0 rfl
        replace p5 := p5 rfl
        dsimp only at p0 p5
        rw [p0, p5] at hK ⊢
        clear p0 p5
        unfold RunsOp
        have hb : (((i : Nat) : Int) == ((n : Nat) : Int)) = false := beq_eq_false_iff_ne.2 (by omega)
        go_simp
        exact hK.out _ _ ⟨_, rfl, Only.refl _ _, rfl⟩
      · intro vals wr hR hp K hK
        dsimp only at hK ⊢
        obtain ⟨p6, -⟩ := hp
        replace p6 := p6 rfl
        dsimp only at p6
        rw [p6] at hK ⊢
        clear p6
        unfold RunsOp
        go_simp
        exact hK.out _ _ ⟨_, rfl, Only.refl _ _, rfl⟩
      · intro vals wr hR hp K hK
        dsimp only at hK ⊢
        obtain ⟨p7, -⟩ := hp
        replace p7 := p7 rfl
        dsimp only at p7
        rw [p7] at hK ⊢
        clear p7
        unfold RunsOp
        go_simp
        exact hK.out _ _ ⟨_, rfl, Only.refl _ _, rfl⟩
      · intro vals wr hR hp K hK
        dsimp only at hK ⊢
        obtain ⟨p8, p7, -⟩ := hp
        replace p8 := p8 rfl
        replace p7 := p7 rfl
        dsimp only at p8 p7
        rw [p8, p7] at hK ⊢
        clear p8 p7
        unfold RunsOp
        go_simp
        exact hK.out _ _ ⟨_, rfl, Only.refl _ _, rfl⟩
      · intro vals wr hR hp K hK
        dsimp only at hK ⊢
        obtain ⟨p9, p7, -⟩ := hp
        replace p9 := p9 rfl
        replace p7 := p7 rfl
        dsimp only at p9 p7
        rw [p9, p7] at hK ⊢
        clear p9 p7
        unfold RunsOp
        go_simp
        exact hK.out _ _ ⟨_, rfl, Only.refl _ _, rfl⟩
      · intro vals wr hR hp K hK
        dsimp only at hK ⊢
        obtain ⟨p10, p7, -⟩ := hp
        replace p10 := p10 rfl
        replace p7 := p7 rfl
        dsimp only at p10 p7
        rw [p10, p7] at hK ⊢
        clear p10 p7
        unfold RunsOp
        have k0 := (hR.cell (p := ⟨g, 0, none⟩) HK.out.2.2 (by simp)).trans HK.out.1
        go_simp
        exact hK.out _ _ ⟨_, rfl, Only.refl _ _, rfl⟩
      · intro vals wr hR hp K hK
        dsimp only at hK ⊢
        obtain ⟨p7, -⟩ := hp
        replace p7 := p7 rfl
        dsimp only at p7
        rw [p7] at hK ⊢
        clear p7
        unfold RunsOp
        go_simp
        exact hK.out _ _ ⟨_, rfl, Only.refl _ _, rfl⟩
      · intro vals wr hR hp K hK
        dsimp only at hK ⊢
        obtain ⟨p12, p7, -⟩ := hp
        replace p12 := p12 rfl
        replace p7 := p7 rfl
        dsimp only at p12 p7
        rw [p12, p7] at hK ⊢
        clear p12 p7
        unfold RunsOp
        go_simp
        exact hK.out _ _ ⟨_, rfl, Only.refl _ _, rfl⟩
      · intro vals wr hR hp K hK
        dsimp only at hK ⊢
        obtain ⟨p13, p7, -⟩ := hp
        replace p13 := p13 rfl
        replace p7 := p7 rfl
        dsimp only at p13 p7
        rw [p13, p7] at hK ⊢
        clear p13 p7
        unfold RunsOp
        go_simp
        exact hK.out _ _ ⟨_, rfl, Only.refl _ _, rfl⟩
      · intro vals wr hR hp K hK
        dsimp only at hK ⊢
        obtain ⟨p14, p7, -⟩ := hp
        replace p14 := p14 rfl
        replace p7 := p7 rfl
        dsimp only at p14 p7
        rw [p14, p7] at hK ⊢
        clear p14 p7
        unfold RunsOp
        have k0 := (hR.cell (p := ⟨g, 1, none⟩) HK.out.2.2 (by simp)).trans HK.out.2.1
        go_simp
        exact hK.out _ _ ⟨_, rfl, Only.refl _ _, rfl⟩
      · intro vals wr hR hp K hK
        dsimp only at hK ⊢
        obtain ⟨p7, -⟩ := hp
        replace p7 := p7 rfl
        dsimp only at p7
        rw [p7] at hK ⊢
        clear p7
        unfold RunsOp
        go_simp
        exact hK.out _ _ ⟨_, rfl, Only.refl _ _, rfl⟩
      · intro vals wr hR hp K hK
        dsimp only at hK ⊢
        obtain ⟨p15, p16, p7, -⟩ := hp
        replace p15 := p15 rfl
        replace p16 := p16 rfl
        replace p7 := p7 rfl
        dsimp only at p15 p16 p7
        rw [p15, p16, p7] at hK ⊢
        clear p15 p16 p7
        unfold RunsOp
        have i0 : (0 : Int) ≤ (i : Int) := by omega
        have i1 : (i : Int) < (n : Int) := by omega
        go_simp
        exact hK.out _ _ ⟨_, rfl, Only.refl _ _, rfl⟩
      · intro vals wr hR hp K hK
        dsimp only at hK ⊢
        obtain ⟨p17, p7, -⟩ := hp
        replace p17 := p17 rfl
        replace p7 := p7 rfl
        dsimp only at p17 p7
        rw [p17, p7] at hK ⊢
        clear p17 p7
        unfold RunsOp
        have q0 := (hR.cell (p := ⟨b, i * 2, none⟩) (show b < wq.heap.size from Nat.lt_of_lt_of_le HC.out.1 (Nat.le_trans H0.out.size HOd.out.size)) (by simp)).trans ((HOd.out.cell (p := ⟨b, i * 2, none⟩) (show b < _ from Nat.lt_of_lt_of_le HC.out.1 H0.out.size) (by simp)).trans ((H0.out.cell (p := ⟨b, i * 2, none⟩) HC.out.1 (by simp)).trans HC.out.2.1))
        have q1 := (hR.cell (p := ⟨b, i * 2 + 1, none⟩) (show b < wq.heap.size from Nat.lt_of_lt_of_le HC.out.1 (Nat.le_trans H0.out.size HOd.out.size)) (by simp)).trans ((HOd.out.cell (p := ⟨b, i * 2 + 1, none⟩) (show b < _ from Nat.lt_of_lt_of_le HC.out.1 H0.out.size) (by simp)).trans ((H0.out.cell (p := ⟨b, i * 2 + 1, none⟩) HC.out.1 (by simp)).trans HC.out.2.2))
        go_simp
        exact hK.out _ _ ⟨_, rfl, Only.refl _ _, rfl⟩
      · intro vals wr hR hp K hK
        dsimp only at hK ⊢
        obtain ⟨p7, -⟩ := hp
        replace p7 := p7 rfl
        dsimp only at p7
        rw [p7] at hK ⊢
        clear p7
        unfold RunsOp
        have k0 := (hR.cell (p := ⟨w.heap.size, 0, none⟩) HBX2.out.2.2 (by simp)).trans HBX2.out.1
        have k1 := (hR.cell (p := ⟨w.heap.size, 1, none⟩) HBX2.out.2.2 (by simp)).trans HBX2.out.2.1
        go_simp
        exact hK.out _ _ ⟨_, rfl, Only.refl _ _, rfl⟩
      · intro vals wr hR hp K hK
        dsimp only at hK ⊢
        obtain ⟨p11, p18, p19, p7, -, -⟩ := hp
        replace p11 := p11 rfl
        replace p18 := p18 rfl
        replace p19 := p19 rfl
        replace p7 := p7 rfl
        dsimp only at p11 p18 p19 p7
        rw [p11, p18, p19, p7] at hK ⊢
        clear p11 p18 p19 p7
        unfold RunsOp
        go_simp
        refine (level_any y.1 y.2 x.1 x.2 _).mono ?_
        rintro e' w2 ⟨rfl, o2⟩
        exact hK.out _ _ ⟨_, rfl, o2, rfl⟩
      · intro vals wr hR hp K hK
        dsimp only at hK ⊢
        obtain ⟨p20, p7, -⟩ := hp
        replace p20 := p20 rfl
        replace p7 := p7 rfl
        dsimp only at p20 p7
        rw [p20, p7] at hK ⊢
        clear p20 p7
        unfold RunsOp
        go_simp
        exact hK.out _ _ ⟨_, rfl, Only.refl _ _, rfl⟩
    case doneh =>
      intro vals wd hR hF
      have f7 : vals 7 = .bool false := hF 7 (by decide)
      have f21 : vals 21 = .bool false := hF 21 (by decide)
      rw [f7, f21]
      clear f7 f21
      have HO4 := Lib.hid (H0.out.trans (HOd.out.trans ((Only.refl [] wq).drew.trans hR (by simp)) (by simp)) (by simp))
      have hz4 := HO4.out.size
      have hT4 := HT.out.1.keep HO4.out
      have hbk := hT4.blk
      rw [HLN.out] at hbk
      obtain ⟨g0, g1, gl⟩ := hbk.facts2
      obtain ⟨zs, hmk, hzo⟩ := make_own (P := Try.prog) 51 49 Try.underlying51 item_info (n - 1) (by omega) (by unfold maxLen; omega)
      obtain ⟨W5, hW5⟩ : ∃ W5, wd.alloc (.cells zs 49) = W5 := ⟨_, rfl⟩
      have hmk2 : (Instr.makeSlice 51 (.int .i64 0) (.int .i64 ((n : Int) - 1))).run Try.prog wd = .ok (.slice (some ⟨wd.heap.size, 0, none⟩) 0 (n - 1)) W5 := by
        rw [show (n : Int) - 1 = ((n - 1 : Nat) : Int) by omega, ← hW5]
        exact hmk wd
      have hQ5 := hzo wd
      rw [hW5] at hQ5
      have o45 : Only [] wd W5 := by rw [← hW5]; exact (Only.refl [] wd).alloc _
      have hz5 := o45.size
      have hrow := own_rowC (by rw [len_flat2]) (hT4.keep o45).row
      have hU1 : RowC W5 (some ⟨b, 0, none⟩) (flat2 (L.take i)) := by
        have h := hrow.take (i * 2)
        rw [flat2_take] at h
        exact h
      obtain ⟨A6, c6, w6, hr6, ho6, hg6, -⟩ := run_append_rowC (P := Try.prog) (t := 51) (e := 49) (c := c) (m := i) 51 (by omega) Try.underlying51 item_info rfl hQ5 hU1 (flat2_one _) (by rw [len_flat2, List.length_take, HLN.out]; congr 1; omega) (by omega) (by unfold maxLen; omega) (by omega)
      rw [Nat.zero_add] at hr6 ho6
      rw [List.nil_append] at ho6
      have hz6 := hg6.size
      have o46 : Only [] wd w6 := o45.trans hg6 (fun y hy => .inr (by
        have := hQ5.lt y (by simpa using hy)
        omega))
      have hT6 := hT4.keep o46
      have hU2 : RowC w6 (some ⟨b, (i + 1) * 2, none⟩) (flat2 (L.drop (i + 1))) := by
        have h := (own_rowC (by rw [len_flat2]) hT6.row).drop ((i + 1) * 2)
        rw [Nat.zero_add, flat2_drop] at h
        exact h
      obtain ⟨A7, c7, w7, hr7, ho7, hg7, -⟩ := run_append_rowC (P := Try.prog) (t := 51) (e := 49) (c := (c - (i + 1))) (m := (n - (i + 1))) 51 (by omega) Try.underlying51 item_info rfl ho6 hU2 (flat2_one _) (by rw [len_flat2, List.length_drop, HLN.out]) (by omega) (by unfold maxLen; omega) (by omega)
      rw [← flat2_append] at ho7
      have hz7 := hg7.size
      have hbk6 := hT6.blk
      rw [HLN.out] at hbk6
      obtain ⟨g60, g61, gl6⟩ := hbk6.facts2
      have hgn : g ∉ (Value.slice A6 i c6).ownBlock.toList := fun h => by
        have := ho6.lt _ (by simpa using h)
        omega
      have hb7 := hg7.blk hbk6 hgn
      have gf7 : w7.frozen? ⟨g, 1, none⟩ = false := hb7.frozen 1
      obtain ⟨g70, g71, gl7⟩ := hb7.facts2
      have hlen : (L.take i ++ L.drop (i + 1)).length = i + (n - (i + 1)) := by
        rw [List.length_append, List.length_take, List.length_drop, HLN.out]
        omega
      have hB7 := HB.out
      have HFIN := Lib.hid (show BBJ B (w7.setCell ⟨g, 1, none⟩ (.slice A7 (i + (n - (i + 1))) c7)) g (L.take i ++ L.drop (i + 1)) A7 c7 from ⟨by
        rw [hlen]
        exact hb7.set_ 1 _, by
        rw [hlen]
        exact ownsRow_only (only_setCell _ _ _) (own_base ho7 (by omega)) (fun x hx => by
          have := ho7.lt x hx
          simp
          omega), by
        have h := HT.out.1.srt
        have e : L = (L.take i ++ [y]) ++ L.drop (i + 1) := by
          rw [← take_succ_of HT.out.2, List.take_append_drop]
        rw [e] at h
        exact Sorted.app (Sorted.left (Sorted.left h)) (Sorted.right h) (fun p hp q hq => Sorted.cross h p (List.mem_append_left _ hp) q hq)⟩)
      have HOF := Lib.hid (show Only [g] w (w7.setCell ⟨g, 1, none⟩ (.slice A7 (i + (n - (i + 1))) c7)) from ((Only.refl [g] w).trans ((HO4.out.trans o46 (by simp)).trans hg7 (fun y hy => .inr (by
        have := ho6.lt y (by simpa using hy)
        omega))) (by simp)).setCell (.inl (by simp)) _)
      have j0 : (0 : Int) ≤ (i : Int) := by omega
      have j1 : (i : Int) ≤ (c : Int) := by omega
      have j2 : (0 : Int) ≤ (i : Int) + 1 := by omega
      have j3 : (i : Int) + 1 ≤ (n : Int) := by omega
      have j4 : ((i : Int) + 1).toNat = i + 1 := by omega
      have j5 : (i : Int) + 1 ≤ (c : Int) := by omega
      have m0 := (o45.cell (p := ⟨g, 1, none⟩) gl (by simp)).trans g1
      have gl5 : g < W5.heap.size := by omega
      clear hR hF hzo hmk hQ5 hrow hU1 hU2 hT4 hT6 hbk hbk6 hb7 ho6 ho7 hg6 hg7 hgn hlen hB7 o45 o46 HG HK hlc
      gi_wp2_with (fail)
      clear hW5
      go_wp2_with (at_builtin; first | (refine wpList_append_run hr6 rfl _ _ rfl rfl rfl rfl ?_; clear hr6; clear g0 g1 m0 gl gl5) | (refine wpList_append_run hr7 rfl _ _ rfl rfl rfl rfl ?_; clear hr7; clear g60 g61 gl6))
      refine bodyPost_ret (v := .bool true) (by simp [results, Try.results26, go_sem]) rfl ?_
      exact ⟨rfl, ⟨A7, c7, HFIN.out⟩, HOF.out⟩
set_option maxHeartbeats 4000000 in
theorem dropyes41 {B : Nat} {w : World} {g : Nat} {L : List Ent} {A : Option Addr} (hT : BBJ B w g L A L.length) (x : Ent) (hn : L.length ≤ 1000000) {i : Nat} {y : Ent} (hi : aheadB keyJ L (keyJ x) = i) (hy : L[i]? = some y) (hne : keyJ y = keyJ x) (hB : B ≤ w.heap.size) (hci : L.length = i + 1) :
    Calls Try.prog 26 #[.pointer (some ⟨g, 0, none⟩), .agg #[.int .i64 x.1, .int .i64 x.2]] w fun e w' => e = .returned (.bool true) ∧ (∃ A' c', BBJ B w' g (L.take i ++ L.drop (i + 1)) A' c') ∧ Only [g] w w' := by
  have hil : i < L.length := (List.getElem?_eq_some_iff.1 hy).1
  obtain ⟨b, hA, hb, -, c0, c1⟩ := own_cell rfl hT.row hy
  have HC := Lib.hid (And.intro hb (And.intro c0 c1))
  clear c0 c1
  subst hA
  skip
  have h0 : Only [] w (w.alloc (.cells #[.int .i64 x.1, .int .i64 x.2] 49)) := (Only.refl [] w).alloc _
  have hT2 := hT.keep h0
  have HG := Lib.hid hT2.blk.facts2
  have hr := own_rowC (by rw [len_flat2]) hT2.row
  have HP := Lib.hid (fun (W : World) (o : Only [] (w.alloc (.cells #[.int .i64 x.1, .int .i64 x.2] 49)) W) => aheadJ (x := x) (c := L.length) (hr.only o) rfl hn hT.srt)
  rw [hi] at HP
  obtain ⟨g0, g1, gl⟩ := hT.blk.facts2
  have HT := Lib.hid (And.intro hT hy)
  have hcz : (cmpZ (keyJ y) (keyJ x) != 0) = false := by
    have e : cmpZ (keyJ y) (keyJ x) = 0 := by unfold cmpZ; rw [hne]; simp
    rw [e]; rfl
  have HB := Lib.hid hB
  clear hT hy hB hne
  have HCI0 := hci
  obtain ⟨n, hL⟩ : ∃ n, L.length = n := ⟨_, rfl⟩
  have HLN := Lib.hid hL
  rw [hL] at HP HG g1 hn hil hci
  clear hL
  have HCI := Lib.hid hci
  clear hci HCI0
  have HBX := Lib.hid (Blk.new w 49 #[.int .i64 x.1, .int .i64 x.2]).facts2
  have H0 := Lib.hid h0
  clear hr hT2 h0 hi
  go_enter Try.func26, Try.ntmps26
  go_wp2_with (fail)
  refine (wpIn_wide (n := 9)).1 ?_
  refine wpIn_region_relR 11 (Only []) (fr := ?frg) (tl := ?tlg) (fun iq v wv => match iq with
    | 0 => v = .pointer (some ⟨g, 0, none⟩)
    | 1 => v = .pointer (some ⟨g, 0, none⟩)
    | 2 => v = .pointer (some ⟨g, 1, none⟩)
    | 3 => v = .slice (some ⟨b, 0, none⟩) n n
    | 4 => v = .agg #[.int .i64 x.1, .int .i64 x.2]
    | 5 => v = .pointer (some ⟨g, 0, none⟩)
    | 6 => v = .pointer (some ⟨g, 0, none⟩)
    | 7 => v = .pointer (some ⟨g, 0, none⟩)
    | 8 => v = .func (.func 22) #[] #[]
    | 9 => v = .int .i64 (i : Nat)
    | 10 => v = .int .i64 (i : Nat)
    | _ => True) (.inl rfl) (by kernel_rfl) (by kernel_rfl) (by kernel_rfl) (by kernel_rfl) (by kernel_rfl) (by kernel_rfl) (by decide) ?htlg ?hfrg (Only.refl _ _) (fun _ _ _ h k => h.trans k (fun _ hx => .inl hx)) ?stabg ?stepsg ?doneg
  case htlg => simp only [List.drop_succ_cons, List.drop_zero]; rfl
  case hfrg => intro vals; simp only [putAll, dstAt, Act.put, List.getElem?_toArray, List.getElem?_cons_zero, List.getElem?_cons_succ, Option.bind_some, List.setIfInBounds_toArray, List.set_cons_zero, List.set_cons_succ]; rfl
  case stabg =>
    intro i v wa wb h
    try dsimp only
    split <;> first | exact id
  case stepsg =>
    refine ⟨?_, ?_, ?_, ?_, ?_, ?_, ?_, ?_, ?_, ?_, ?_, trivial⟩
    · intro vals wr hR hp K hK
      dsimp only at hK ⊢
      clear hp
      unfold RunsOp
      go_simp
      exact hK.out _ _ ⟨_, rfl, Only.refl _ _, rfl⟩
    · intro vals wr hR hp K hK
      dsimp only at hK ⊢
      obtain ⟨p0, -⟩ := hp
      replace p0 := p0 rfl
      dsimp only at p0
      rw [p0] at hK ⊢
      clear p0
      unfold RunsOp
      go_simp
      exact hK.out _ _ ⟨_, rfl, Only.refl _ _, rfl⟩
    · intro vals wr hR hp K hK
      dsimp only at hK ⊢
      obtain ⟨p1, -⟩ := hp
      replace p1 := p1 rfl
      dsimp only at p1
      rw [p1] at hK ⊢
      clear p1
      unfold RunsOp
      go_simp
      exact hK.out _ _ ⟨_, rfl, Only.refl _ _, rfl⟩
    · intro vals wr hR hp K hK
      dsimp only at hK ⊢
      obtain ⟨p2, -⟩ := hp
      replace p2 := p2 rfl
      dsimp only at p2
      rw [p2] at hK ⊢
      clear p2
      unfold RunsOp
      have k0 := (hR.cell (p := ⟨g, 1, none⟩) HG.out.2.2 (by simp)).trans HG.out.2.1
      go_simp
      exact hK.out _ _ ⟨_, rfl, Only.refl _ _, rfl⟩
    · intro vals wr hR hp K hK
      dsimp only at hK ⊢
      clear hp
      unfold RunsOp
      have k0 := (hR.cell (p := ⟨w.heap.size, 0, none⟩) HBX.out.2.2 (by simp)).trans HBX.out.1
      have k1 := (hR.cell (p := ⟨w.heap.size, 1, none⟩) HBX.out.2.2 (by simp)).trans HBX.out.2.1
      go_simp
      exact hK.out _ _ ⟨_, rfl, Only.refl _ _, rfl⟩
    · intro vals wr hR hp K hK
      dsimp only at hK ⊢
      clear hp
      unfold RunsOp
      go_simp
      exact hK.out _ _ ⟨_, rfl, Only.refl _ _, rfl⟩
    · intro vals wr hR hp K hK
      dsimp only at hK ⊢
      obtain ⟨p5, -⟩ := hp
      replace p5 := p5 rfl
      dsimp only at p5
      rw [p5] at hK ⊢
      clear p5
      unfold RunsOp
      go_simp
      exact hK.out _ _ ⟨_, rfl, Only.refl _ _, rfl⟩
    · intro vals wr hR hp K hK
      dsimp only at hK ⊢
      obtain ⟨p6, -⟩ := hp
      replace p6 := p6 rfl
      dsimp only at p6
      rw [p6] at hK ⊢
      clear p6
      unfold RunsOp
      go_simp
      exact hK.out _ _ ⟨_, rfl, Only.refl _ _, rfl⟩
    · intro vals wr hR hp K hK
      dsimp only at hK ⊢
      obtain ⟨p7, -⟩ := hp
      replace p7 := p7 rfl
      dsimp only at p7
      rw [p7] at hK ⊢
      clear p7
      unfold RunsOp
      have k0 := (hR.cell (p := ⟨g, 0, none⟩) HG.out.2.2 (by simp)).trans HG.out.1
      go_simp
      exact hK.out _ _ ⟨_, rfl, Only.refl _ _, rfl⟩
    · intro vals wr hR hp K hK
      dsimp only at hK ⊢
      obtain ⟨p3, p4, p8, -⟩ := hp
      replace p3 := p3 rfl
      replace p4 := p4 rfl
      replace p8 := p8 rfl
      dsimp only at p3 p4 p8
      rw [p3, p4, p8] at hK ⊢
      clear p3 p4 p8
      unfold RunsOp
      go_simp
      refine (HP.out _ ((Only.refl [] _).drew.trans hR (by simp))).mono ?_
      rintro e' w2 ⟨rfl, o2⟩
      exact hK.out _ _ ⟨_, rfl, o2, rfl⟩
    · intro vals wr hR hp K hK
      dsimp only at hK ⊢
      obtain ⟨p9, -, -, -, -, -, -, -, -, -, -, -, -⟩ := hp
      replace p9 := p9 rfl
      dsimp only at p9
      rw [p9] at hK ⊢
      clear p9
      unfold RunsOp
      go_simp
      exact hK.out _ _ ⟨_, rfl, Only.refl _ _, rfl⟩
  case doneg =>
    intro vals wd hR hF
    have f10 : vals 10 = .int .i64 (i : Nat) := hF 10 (by decide)
    rw [f10]
    clear f10
    have HOd := Lib.hid (((Only.refl [] (w.alloc (.cells #[.int .i64 x.1, .int .i64 x.2] 49))).drew.trans hR (by simp)))
    have k0 := (hR.cell (p := ⟨g, 0, none⟩) HG.out.2.2 (by simp)).trans HG.out.1
    have k1 := (hR.cell (p := ⟨g, 1, none⟩) HG.out.2.2 (by simp)).trans HG.out.2.1
    have HK := Lib.hid (And.intro k0 (And.intro k1 (Nat.lt_of_lt_of_le HG.out.2.2 HOd.out.size)))
    clear hR hF g0 g1 gl
    obtain ⟨wq, rfl⟩ : ∃ wq : World, wq = wd := ⟨_, rfl⟩
    have HBX2 := Lib.hid (show wq.cell? ⟨w.heap.size, 0, none⟩ = some (.int .i64 x.1) ∧ wq.cell? ⟨w.heap.size, 1, none⟩ = some (.int .i64 x.2) ∧ w.heap.size < wq.heap.size from ⟨(HOd.out.cell (p := ⟨w.heap.size, 0, none⟩) HBX.out.2.2 (by simp)).trans HBX.out.1, (HOd.out.cell (p := ⟨w.heap.size, 1, none⟩) HBX.out.2.2 (by simp)).trans HBX.out.2.1, Nat.lt_of_lt_of_le HBX.out.2.2 HOd.out.size⟩)
    gi_wp2_with (fail)
    go_wp2_with (fail)
    clear k0 k1
    refine (wpIn_wide (n := 9)).1 ?_
    refine wpIn_region_relR 22 (Only []) (fr := ?frh) (tl := ?tlh) (fun iq v wv => match iq with
      | 0 => v = .int .i64 (i : Nat)
      | 1 => v = .pointer (some ⟨g, 0, none⟩)
      | 2 => v = .pointer (some ⟨g, 0, none⟩)
      | 3 => v = .pointer (some ⟨g, 1, none⟩)
      | 4 => v = .slice (some ⟨b, 0, none⟩) n n
      | 5 => v = .int .i64 (n : Nat)
      | 6 => v = .bool false
      | 7 => v = .bool false
      | 8 => v = .pointer (some ⟨g, 0, none⟩)
      | 9 => v = .pointer (some ⟨g, 0, none⟩)
      | 10 => v = .pointer (some ⟨g, 0, none⟩)
      | 11 => v = .func (.func 22) #[] #[]
      | 12 => v = .pointer (some ⟨g, 0, none⟩)
      | 13 => v = .pointer (some ⟨g, 0, none⟩)
      | 14 => v = .pointer (some ⟨g, 1, none⟩)
      | 15 => v = .slice (some ⟨b, 0, none⟩) n n
      | 16 => v = .int .i64 (i : Nat)
      | 17 => v = .pointer (some ⟨b, i * 2, none⟩)
      | 18 => v = .agg #[.int .i64 y.1, .int .i64 y.2]
      | 19 => v = .agg #[.int .i64 x.1, .int .i64 x.2]
      | 20 => v = .int .i64 (cmpZ (keyJ y) (keyJ x))
      | 21 => v = .bool false
      | _ => True) (.inl rfl) (by kernel_rfl) (by kernel_rfl) (by kernel_rfl) (by kernel_rfl) (by kernel_rfl) (by kernel_rfl) (by decide) ?htlh ?hfrh (Only.refl _ _) (fun _ _ _ h k => h.trans k (fun _ hx => .inl hx)) ?stabh ?stepsh ?doneh
    case htlh => simp only [List.drop_succ_cons, List.drop_zero]; rfl
    case hfrh => intro vals; simp only [putAll, dstAt, Act.put, List.getElem?_toArray, List.getElem?_cons_zero, List.getElem?_cons_succ, Option.bind_some, List.setIfInBounds_toArray, List.set_cons_zero, List.set_cons_succ]; rfl
    case stabh =>
      intro i v wa wb h
      try dsimp only
      split <;> first | exact id
    case stepsh =>
      refine ⟨?_, ?_, ?_, ?_, ?_, ?_, ?_, ?_, ?_, ?_, ?_, ?_, ?_, ?_, ?_, ?_, ?_, ?_, ?_, ?_, ?_, ?_, trivial⟩
      · intro vals wr hR hp K hK
        dsimp only at hK ⊢
        clear hp
        unfold RunsOp
        go_simp
        exact hK.out _ _ ⟨_, rfl, Only.refl _ _, rfl⟩
      · intro vals wr hR hp K hK
        dsimp only at hK ⊢
        clear hp
        unfold RunsOp
        go_simp
        exact hK.out _ _ ⟨_, rfl, Only.refl _ _, rfl⟩
      · intro vals wr hR hp K hK
        dsimp only at hK ⊢
        obtain ⟨p1, -⟩ := hp
        replace p1 := p1 rfl
        dsimp only at p1
        rw [p1] at hK ⊢
        clear p1
        unfold RunsOp
        go_simp
        exact hK.out _ _ ⟨_, rfl, Only.refl _ _, rfl⟩
      · intro vals wr hR hp K hK
        dsimp only at hK ⊢
        obtain ⟨p2, -⟩ := hp
        replace p2 := p2 rfl
        dsimp only at p2
        rw [p2] at hK ⊢
        clear p2
        unfold RunsOp
        go_simp
        exact hK.out _ _ ⟨_, rfl, Only.refl _ _, rfl⟩
      · intro vals wr hR hp K hK
        dsimp only at hK ⊢
        obtain ⟨p3, -⟩ := hp
        replace p3 := p3 rfl
        dsimp only at p3
        rw [p3] at hK ⊢
        clear p3
        unfold RunsOp
        have k0 := (hR.cell (p := ⟨g, 1, none⟩) HK.out.2.2 (by simp)).trans HK.out.2.1
        go_simp
        exact hK.out _ _ ⟨_, rfl, Only.refl _ _, rfl⟩
      · intro vals wr hR hp K hK
        dsimp only at hK ⊢
        obtain ⟨p4, -⟩ := hp
        replace p4 := p4 rfl
        dsimp only at p4
        rw [p4] at hK ⊢
        clear p4
        unfold RunsOp
        go_simp
        exact hK.out _ _ ⟨_, rfl, Only.refl _ _, rfl⟩
      · intro vals wr hR hp K hK
        dsimp only at hK ⊢
        obtain ⟨p0, p5, -⟩ := hp
        replace p0 := p0 rfl
        replace p5 := p5 rfl
        dsimp only at p0 p5
        rw [p0, p5] at hK ⊢
        clear p0 p5
        unfold RunsOp
        have hb : (((i : Nat) : Int) == ((n : Nat) : Int)) = false := beq_eq_false_iff_ne.2 (by omega)
        go_simp
        exact hK.out _ _ ⟨_, rfl, Only.refl _ _, rfl⟩
      · intro vals wr hR hp K hK
        dsimp only at hK ⊢
        obtain ⟨p6, -⟩ := hp
        replace p6 := p6 rfl
        dsimp only at p6
        rw [p6] at hK ⊢
        clear p6
        unfold RunsOp
        go_simp
        exact hK.out _ _ ⟨_, rfl, Only.refl _ _, rfl⟩
      · intro vals wr hR hp K hK
        dsimp only at hK ⊢
        obtain ⟨p7, -⟩ := hp
        replace p7 := p7 rfl
        dsimp only at p7
        rw [p7] at hK ⊢
        clear p7
        unfold RunsOp
        go_simp
        exact hK.out _ _ ⟨_, rfl, Only.refl _ _, rfl⟩
      · intro vals wr hR hp K hK
        dsimp only at hK ⊢
        obtain ⟨p8, p7, -⟩ := hp
        replace p8 := p8 rfl
        replace p7 := p7 rfl
        dsimp only at p8 p7
        rw [p8, p7] at hK ⊢
        clear p8 p7
        unfold RunsOp
        go_simp
        exact hK.out _ _ ⟨_, rfl, Only.refl _ _, rfl⟩
      · intro vals wr hR hp K hK
        dsimp only at hK ⊢
        obtain ⟨p9, p7, -⟩ := hp
        replace p9 := p9 rfl
        replace p7 := p7 rfl
        dsimp only at p9 p7
        rw [p9, p7] at hK ⊢
        clear p9 p7
        unfold RunsOp
        go_simp
        exact hK.out _ _ ⟨_, rfl, Only.refl _ _, rfl⟩
      · intro vals wr hR hp K hK
        dsimp only at hK ⊢
        obtain ⟨p10, p7, -⟩ := hp
        replace p10 := p10 rfl
        replace p7 := p7 rfl
        dsimp only at p10 p7
        rw [p10, p7] at hK ⊢
        clear p10 p7
        unfold RunsOp
        have k0 := (hR.cell (p := ⟨g, 0, none⟩) HK.out.2.2 (by simp)).trans HK.out.1
        go_simp
        exact hK.out _ _ ⟨_, rfl, Only.refl _ _, rfl⟩
      · intro vals wr hR hp K hK
        dsimp only at hK ⊢
        obtain ⟨p7, -⟩ := hp
        replace p7 := p7 rfl
        dsimp only at p7
        rw [p7] at hK ⊢
        clear p7
        unfold RunsOp
        go_simp
        exact hK.out _ _ ⟨_, rfl, Only.refl _ _, rfl⟩
      · intro vals wr hR hp K hK
        dsimp only at hK ⊢
        obtain ⟨p12, p7, -⟩ := hp
        replace p12 := p12 rfl
        replace p7 := p7 rfl
        dsimp only at p12 p7
        rw [p12, p7] at hK ⊢
        clear p12 p7
        unfold RunsOp
        go_simp
        exact hK.out _ _ ⟨_, rfl, Only.refl _ _, rfl⟩
      · intro vals wr hR hp K hK
        dsimp only at hK ⊢
        obtain ⟨p13, p7, -⟩ := hp
        replace p13 := p13 rfl
        replace p7 := p7 rfl
        dsimp only at p13 p7
        rw [p13, p7] at hK ⊢
        clear p13 p7
        unfold RunsOp
        go_simp
        exact hK.out _ _ ⟨_, rfl, Only.refl _ _, rfl⟩
      · intro vals wr hR hp K hK
        dsimp only at hK ⊢
        obtain ⟨p14, p7, -⟩ := hp
        replace p14 := p14 rfl
        replace p7 := p7 rfl
        dsimp only at p14 p7
        rw [p14, p7] at hK ⊢
        clear p14 p7
        unfold RunsOp
        have k0 := (hR.cell (p := ⟨g, 1, none⟩) HK.out.2.2 (by simp)).trans HK.out.2.1
        go_simp
        exact hK.out _ _ ⟨_, rfl, Only.refl _ _, rfl⟩
      · intro vals wr hR hp K hK
        dsimp only at hK ⊢
        obtain ⟨p7, -⟩ := hp
        replace p7 := p7 rfl
        dsimp only at p7
        rw [p7] at hK ⊢
        clear p7
        unfold RunsOp
        go_simp
        exact hK.out _ _ ⟨_, rfl, Only.refl _ _, rfl⟩
      · intro vals wr hR hp K hK
        dsimp only at hK ⊢
        obtain ⟨p15, p16, p7, -⟩ := hp
        replace p15 := p15 rfl
        replace p16 := p16 rfl
        replace p7 := p7 rfl
        dsimp only at p15 p16 p7
        rw [p15, p16, p7] at hK ⊢
        clear p15 p16 p7
        unfold RunsOp
        have i0 : (0 : Int) ≤ (i : Int) := by omega
        have i1 : (i : Int) < (n : Int) := by omega
        go_simp
        exact hK.out _ _ ⟨_, rfl, Only.refl _ _, rfl⟩
      · intro vals wr hR hp K hK
        dsimp only at hK ⊢
        obtain ⟨p17, p7, -⟩ := hp
        replace p17 := p17 rfl
        replace p7 := p7 rfl
        dsimp only at p17 p7
        rw [p17, p7] at hK ⊢
        clear p17 p7
        unfold RunsOp
        have q0 := (hR.cell (p := ⟨b, i * 2, none⟩) (show b < wq.heap.size from Nat.lt_of_lt_of_le HC.out.1 (Nat.le_trans H0.out.size HOd.out.size)) (by simp)).trans ((HOd.out.cell (p := ⟨b, i * 2, none⟩) (show b < _ from Nat.lt_of_lt_of_le HC.out.1 H0.out.size) (by simp)).trans ((H0.out.cell (p := ⟨b, i * 2, none⟩) HC.out.1 (by simp)).trans HC.out.2.1))
        have q1 := (hR.cell (p := ⟨b, i * 2 + 1, none⟩) (show b < wq.heap.size from Nat.lt_of_lt_of_le HC.out.1 (Nat.le_trans H0.out.size HOd.out.size)) (by simp)).trans ((HOd.out.cell (p := ⟨b, i * 2 + 1, none⟩) (show b < _ from Nat.lt_of_lt_of_le HC.out.1 H0.out.size) (by simp)).trans ((H0.out.cell (p := ⟨b, i * 2 + 1, none⟩) HC.out.1 (by simp)).trans HC.out.2.2))
        go_simp
        exact hK.out _ _ ⟨_, rfl, Only.refl _ _, rfl⟩
      · intro vals wr hR hp K hK
        dsimp only at hK ⊢
        obtain ⟨p7, -⟩ := hp
        replace p7 := p7 rfl
        dsimp only at p7
        rw [p7] at hK ⊢
        clear p7
        unfold RunsOp
        have k0 := (hR.cell (p := ⟨w.heap.size, 0, none⟩) HBX2.out.2.2 (by simp)).trans HBX2.out.1
        have k1 := (hR.cell (p := ⟨w.heap.size, 1, none⟩) HBX2.out.2.2 (by simp)).trans HBX2.out.2.1
        go_simp
        exact hK.out _ _ ⟨_, rfl, Only.refl _ _, rfl⟩
      · intro vals wr hR hp K hK
        dsimp only at hK ⊢
        obtain ⟨p11, p18, p19, p7, -, -⟩ := hp
        replace p11 := p11 rfl
        replace p18 := p18 rfl
        replace p19 := p19 rfl
        replace p7 := p7 rfl
        dsimp only at p11 p18 p19 p7
        rw [p11, p18, p19, p7] at hK ⊢
        clear p11 p18 p19 p7
        unfold RunsOp
        go_simp
        refine (level_any y.1 y.2 x.1 x.2 _).mono ?_
        rintro e' w2 ⟨rfl, o2⟩
        exact hK.out _ _ ⟨_, rfl, o2, rfl⟩
      · intro vals wr hR hp K hK
        dsimp only at hK ⊢
        obtain ⟨p20, p7, -⟩ := hp
        replace p20 := p20 rfl
        replace p7 := p7 rfl
        dsimp only at p20 p7
        rw [p20, p7] at hK ⊢
        clear p20 p7
        unfold RunsOp
        go_simp
        exact hK.out _ _ ⟨_, rfl, Only.refl _ _, rfl⟩
    case doneh =>
      intro vals wd hR hF
      have f7 : vals 7 = .bool false := hF 7 (by decide)
      have f21 : vals 21 = .bool false := hF 21 (by decide)
      rw [f7, f21]
      clear f7 f21
      have HO4 := Lib.hid (H0.out.trans (HOd.out.trans ((Only.refl [] wq).drew.trans hR (by simp)) (by simp)) (by simp))
      have hz4 := HO4.out.size
      have hci := HCI.out
      have hT4 := HT.out.1.keep HO4.out
      have hbk := hT4.blk
      rw [HLN.out] at hbk
      obtain ⟨g0, g1, gl⟩ := hbk.facts2
      obtain ⟨zs, hmk, hzo⟩ := make_own (P := Try.prog) 51 49 Try.underlying51 item_info (n - 1) (by omega) (by unfold maxLen; omega)
      obtain ⟨W5, hW5⟩ : ∃ W5, wd.alloc (.cells zs 49) = W5 := ⟨_, rfl⟩
      have hmk2 : (Instr.makeSlice 51 (.int .i64 0) (.int .i64 ((n : Int) - 1))).run Try.prog wd = .ok (.slice (some ⟨wd.heap.size, 0, none⟩) 0 (n - 1)) W5 := by
        rw [show (n : Int) - 1 = ((n - 1 : Nat) : Int) by omega, ← hW5]
        exact hmk wd
      have hQ5 := hzo wd
      rw [hW5] at hQ5
      have o45 : Only [] wd W5 := by rw [← hW5]; exact (Only.refl [] wd).alloc _
      have hz5 := o45.size
      have hrow := own_rowC (by rw [len_flat2]) (hT4.keep o45).row
      have hU1 : RowC W5 (some ⟨b, 0, none⟩) (flat2 (L.take i)) := by
        have h := hrow.take (i * 2)
        rw [flat2_take] at h
        exact h
      obtain ⟨A6, c6, w6, hr6, ho6, hg6, -⟩ := run_append_rowC (P := Try.prog) (t := 51) (e := 49) (c := n) (m := i) 51 (by omega) Try.underlying51 item_info rfl hQ5 hU1 (flat2_one _) (by rw [len_flat2, List.length_take, HLN.out]; congr 1; omega) (by omega) (by unfold maxLen; omega) (by omega)
      rw [Nat.zero_add] at hr6 ho6
      rw [List.nil_append] at ho6
      have hz6 := hg6.size
      have o46 : Only [] wd w6 := o45.trans hg6 (fun y hy => .inr (by
        have := hQ5.lt y (by simpa using hy)
        omega))
      have hT6 := hT4.keep o46
      have hU2 : RowC w6 (some ⟨b, 0, none⟩) (flat2 (L.drop (i + 1))) := by
        rw [List.drop_of_length_le (by rw [HLN.out]; omega)]; exact RowC.nil _ _
      obtain ⟨A7, c7, w7, hr7, ho7, hg7, -⟩ := run_append_rowC (P := Try.prog) (t := 51) (e := 49) (c := 0) (m := 0) 51 (by omega) Try.underlying51 item_info rfl ho6 hU2 (flat2_one _) (by rw [len_flat2, List.length_drop, HLN.out]; omega) (by omega) (by unfold maxLen; omega) (by omega)
      rw [← flat2_append] at ho7
      have hz7 := hg7.size
      have hbk6 := hT6.blk
      rw [HLN.out] at hbk6
      obtain ⟨g60, g61, gl6⟩ := hbk6.facts2
      have hgn : g ∉ (Value.slice A6 i c6).ownBlock.toList := fun h => by
        have := ho6.lt _ (by simpa using h)
        omega
      have hb7 := hg7.blk hbk6 hgn
      have gf7 : w7.frozen? ⟨g, 1, none⟩ = false := hb7.frozen 1
      obtain ⟨g70, g71, gl7⟩ := hb7.facts2
      have hlen : (L.take i ++ L.drop (i + 1)).length = i + 0 := by
        rw [List.length_append, List.length_take, List.length_drop, HLN.out]
        omega
      have hB7 := HB.out
      have HFIN := Lib.hid (show BBJ B (w7.setCell ⟨g, 1, none⟩ (.slice A7 (i + 0) c7)) g (L.take i ++ L.drop (i + 1)) A7 c7 from ⟨by
        rw [hlen]
        exact hb7.set_ 1 _, by
        rw [hlen]
        exact ownsRow_only (only_setCell _ _ _) (own_base ho7 (by omega)) (fun x hx => by
          have := ho7.lt x hx
          simp
          omega), by
        have h := HT.out.1.srt
        have e : L = (L.take i ++ [y]) ++ L.drop (i + 1) := by
          rw [← take_succ_of HT.out.2, List.take_append_drop]
        rw [e] at h
        exact Sorted.app (Sorted.left (Sorted.left h)) (Sorted.right h) (fun p hp q hq => Sorted.cross h p (List.mem_append_left _ hp) q hq)⟩)
      have HOF := Lib.hid (show Only [g] w (w7.setCell ⟨g, 1, none⟩ (.slice A7 (i + 0) c7)) from ((Only.refl [g] w).trans ((HO4.out.trans o46 (by simp)).trans hg7 (fun y hy => .inr (by
        have := ho6.lt y (by simpa using hy)
        omega))) (by simp)).setCell (.inl (by simp)) _)
      have jn : n - n = 0 := Nat.sub_self n
      have j0 : (0 : Int) ≤ (i : Int) := by omega
      have j1 : (i : Int) ≤ (n : Int) := by omega
      have j2 : (0 : Int) ≤ (i : Int) + 1 := by omega
      have j3 : (i : Int) + 1 ≤ (n : Int) := by omega
      have j4 : ((i : Int) + 1).toNat = n := by omega
      skip
      have m0 := (o45.cell (p := ⟨g, 1, none⟩) gl (by simp)).trans g1
      have gl5 : g < W5.heap.size := by omega
      clear hci hR hF hzo hmk hQ5 hrow hU1 hU2 hT4 hT6 hbk hbk6 hb7 ho6 ho7 hg6 hg7 hgn hlen hB7 o45 o46 HG HK
      gi_wp2_with (fail)
      clear hW5
      go_wp2_with (at_builtin; first | (refine wpList_append_run hr6 rfl _ _ rfl rfl rfl rfl ?_; clear hr6; clear g0 g1 m0 gl gl5) | (refine wpList_append_run hr7 rfl _ _ rfl rfl rfl rfl ?_; clear hr7; clear g60 g61 gl6))
      refine bodyPost_ret (v := .bool true) (by simp [results, Try.results26, go_sem]) rfl ?_
      exact ⟨rfl, ⟨A7, c7, HFIN.out⟩, HOF.out⟩
end Go.Proofs.Ytpedlapemgjgaaa
