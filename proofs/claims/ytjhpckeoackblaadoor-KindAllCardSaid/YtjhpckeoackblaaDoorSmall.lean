/- small. -/
import Derived.Test.YtjhpckeoackblaaDoorExpr
namespace Go.Proofs.YtjhpckeoackblaaDoor
open Go.RowKit Go.Kx
set_option maxRecDepth 100000
theorem _root_.Go.Kx.Blk.facts14 {w : World} {g : Nat} {t : TypeId} {a0 a1 a2 a3 a4 a5 a6 a7 a8 a9 a10 a11 a12 a13 : Value} (h : Blk w g t #[a0, a1, a2, a3, a4, a5, a6, a7, a8, a9, a10, a11, a12, a13]) : w.cell? ⟨g, 0, none⟩ = some a0 ∧ w.cell? ⟨g, 1, none⟩ = some a1 ∧ w.cell? ⟨g, 2, none⟩ = some a2 ∧ w.cell? ⟨g, 3, none⟩ = some a3 ∧ w.cell? ⟨g, 4, none⟩ = some a4 ∧ w.cell? ⟨g, 5, none⟩ = some a5 ∧ w.cell? ⟨g, 6, none⟩ = some a6 ∧ w.cell? ⟨g, 7, none⟩ = some a7 ∧ w.cell? ⟨g, 8, none⟩ = some a8 ∧ w.cell? ⟨g, 9, none⟩ = some a9 ∧ w.cell? ⟨g, 10, none⟩ = some a10 ∧ w.cell? ⟨g, 11, none⟩ = some a11 ∧ w.cell? ⟨g, 12, none⟩ = some a12 ∧ w.cell? ⟨g, 13, none⟩ = some a13 ∧ g < w.heap.size :=
  ⟨by rw [h.cell]; rfl, by rw [h.cell]; rfl, by rw [h.cell]; rfl, by rw [h.cell]; rfl, by rw [h.cell]; rfl, by rw [h.cell]; rfl, by rw [h.cell]; rfl, by rw [h.cell]; rfl, by rw [h.cell]; rfl, by rw [h.cell]; rfl, by rw [h.cell]; rfl, by rw [h.cell]; rfl, by rw [h.cell]; rfl, by rw [h.cell]; rfl, h.lt⟩
theorem ports_nil (r : Int) (w : World) : Calls Tryd.prog 24 #[.slice none 0 0, .int .i64 r] w fun x w' => x = .returned (.int .i64 r) ∧ Only [] w w' := by
  go_enter Tryd.func24, Tryd.ntmps24
  go_wp2_with (fail)
  go_loopw [1, 5] (fun r' i wr => r' = .int .i64 r ∧ i = .int .i64 0 ∧ Hid (Only [] w wr)) (fun _ _ _ => 0)
  case atStart => exact ⟨rfl, rfl, Lib.hid (Only.refl _ _)⟩
  case round =>
    obtain ⟨rfl, rfl, HO⟩ := hrel
    go_wp2_with (fail)
    go_ret
    exact ⟨rfl, HO.out⟩
theorem sets_nil (r : Int) (w : World) : Calls Tryd.prog 25 #[.slice none 0 0, .int .i64 r] w fun x w' => x = .returned (.int .i64 r) ∧ Only [] w w' := by
  go_enter Tryd.func25, Tryd.ntmps25
  go_wp2_with (fail)
  go_loopw [1, 5] (fun r' i wr => r' = .int .i64 r ∧ i = .int .i64 0 ∧ Hid (Only [] w wr)) (fun _ _ _ => 0)
  case atStart => exact ⟨rfl, rfl, Lib.hid (Only.refl _ _)⟩
  case round =>
    obtain ⟨rfl, rfl, HO⟩ := hrel
    go_wp2_with (fail)
    go_ret
    exact ⟨rfl, HO.out⟩
set_option maxHeartbeats 8000000 in
theorem Small16 {op n : Int} {nm sb : ByteArray} {A : Option Addr} {cap ne pb tb : Nat} {args : List Ex} {w : World} (hne : args.length = ne) (hL : Lies w (.mk op n nm sb A cap args)) (hp : Blk w pb 62 #[.string ⟨#[]⟩, .bool false, .slice none 0 0, .slice none 0 0, .slice none 0 0, .slice (some ⟨tb, 0, none⟩) 1 1, .slice none 0 0, .slice none 0 0, .slice none 0 0, .int .i64 0, .slice none 0 0, .slice none 0 0, .slice none 0 0, .slice none 0 0]) (ht : Blk w tb 24 #[.int .i64 op, .int .i64 n, .string nm, .string sb, .slice A ne cap]) :
    Calls Tryd.prog 16 #[.agg #[.slice (some ⟨pb, 0, none⟩) 1 1, .string ⟨#[]⟩]] w fun r w' => ∃ x : Int, r = .returned (.int .i64 x) ∧ Only [] w w' := by
  have CE := Lib.hid (fun W (o : Only [] w W) => (show Calls Tryd.prog 26 #[.agg #[.int .i64 op, .int .i64 n, .string nm, .string sb, .slice A ne cap], .int .i64 40, .int .i64 599] W fun r w' => ∃ x : Int, r = .returned (.int .i64 x) ∧ Only [] W w' from by
    have h := expr_any _ W (hL.keep o) 40 599 (by omega) (by omega) (by omega)
    rw [show (Ex.mk op n nm sb A cap args).val = .agg #[.int .i64 op, .int .i64 n, .string nm, .string sb, .slice A ne cap] by rw [← hne]; rfl] at h
    exact h.mono (fun r w' h => ⟨_, h.1, h.2⟩)))
  have HP0 := Lib.hid hp
  have HT0 := Lib.hid ht
  have hb := Blk.new w 65 #[.slice (some ⟨pb, 0, none⟩) 1 1, .string ⟨#[]⟩]
  have HB0 := Lib.hid hb
  have HO0 := Lib.hid (show Only [] w (w.alloc (.cells #[.slice (some ⟨pb, 0, none⟩) 1 1, .string ⟨#[]⟩] 65)) from (Only.refl [] w).alloc _)
  obtain ⟨b0, b1, bl⟩ := hb.facts2
  clear hne hL hp ht hb
  go_enter Tryd.func16, Tryd.ntmps16
  go_wp2_with (fail)
  go_loopw [3, 4, 5, 6, 7, 8, 9] (fun r i _ _ _ _ _ wr => ∃ (x : Int), r = .int .i64 x ∧ (i = .int .i64 0 ∧ x = 600 ∨ i = .int .i64 1) ∧ Hid (Blk wr w.heap.size 65 #[.slice (some ⟨pb, 0, none⟩) 1 1, .string ⟨#[]⟩]) ∧ Hid (Only [] w wr)) (fun _ i _ _ _ _ _ _ => 1 - (intOf i).toNat)
  case atStart => exact ⟨600, rfl, .inl ⟨rfl, rfl⟩, HB0, HO0⟩
  case round =>
    obtain ⟨x, rfl, hk, HB, HOr⟩ := hrel
    obtain ⟨b0, b1, bl⟩ := HB.out.facts2
    rcases hk with ⟨rfl, rfl⟩ | rfl
    · have hp := HOr.out.blk HP0.out (by simp)
      obtain ⟨m0, m1, m2, m3, m4, m5, m6, m7, m8, m9, m10, m11, m12, m13, ml⟩ := hp.facts14
      have hmb := (Blk.new wr 62 #[.string ⟨#[]⟩, .bool false, .slice none 0 0, .slice none 0 0, .slice none 0 0, .slice (some ⟨tb, 0, none⟩) 1 1, .slice none 0 0, .slice none 0 0, .slice none 0 0, .int .i64 0, .slice none 0 0, .slice none 0 0, .slice none 0 0, .slice none 0 0])
      have HMr0 := Lib.hid hmb
      have HOm := Lib.hid (show Only [] wr (wr.alloc (.cells #[.string ⟨#[]⟩, .bool false, .slice none 0 0, .slice none 0 0, .slice none 0 0, .slice (some ⟨tb, 0, none⟩) 1 1, .slice none 0 0, .slice none 0 0, .slice none 0 0, .int .i64 0, .slice none 0 0, .slice none 0 0, .slice none 0 0, .slice none 0 0] 62)) from (Only.refl [] wr).alloc _)
      obtain ⟨k0, k1, k2, k3, k4, k5, k6, k7, k8, k9, k10, k11, k12, k13, kl⟩ := hmb.facts14
      clear hp hmb
      go_wp2_with (fail)
      clear m0 m1 m2 m3 m4 m5 m6 m7 m8 m9 m10 m11 m12 m13 ml
      clear k0 k1 k2 k3 k4 k5 k6 k7 k8 k9 k10 k11 k12 k13 kl b0 b1 bl
      obtain ⟨mb, hmb⟩ : ∃ mb, wr.heap.size = mb := ⟨_, rfl⟩
      obtain ⟨wm, hwm⟩ : ∃ wm : World, wr.alloc (.cells #[.string ⟨#[]⟩, .bool false, .slice none 0 0, .slice none 0 0, .slice none 0 0, .slice (some ⟨tb, 0, none⟩) 1 1, .slice none 0 0, .slice none 0 0, .slice none 0 0, .int .i64 0, .slice none 0 0, .slice none 0 0, .slice none 0 0, .slice none 0 0] 62) = wm := ⟨_, rfl⟩
      rw [hwm] at HMr0 HOm
      rw [hmb] at HMr0
      rw [hwm, hmb]
      have HMr := HMr0
      have hmlo : w.heap.size ≤ mb := by rw [← hmb]; exact HOr.out.size
      clear hwm hmb HMr0
      refine (wpIn_wide (n := 9)).1 ?_
      refine wpIn_region_relR 8 (Only []) (fr := ?frs10) (tl := ?tls10) (fun iq v wv => match iq with
        | 0 => v = .pointer (some ⟨mb, 3, none⟩)
        | 1 => v = .slice none 0 0
        | 2 => v = .pointer (some ⟨mb, 2, none⟩)
        | 3 => v = .slice none 0 0
        | 4 => v = .int .i64 600
        | 5 => v = .int .i64 599
        | 6 => v = .int .i64 (599)
        | 7 => v = .int .i64 (599)
        | _ => True) (.inl rfl) (by kernel_rfl) (by kernel_rfl) (by kernel_rfl) (by kernel_rfl) (by kernel_rfl) (by kernel_rfl) (by decide) ?htls10 ?hfrs10 (Only.refl _ _) (fun _ _ _ h k => h.trans k (fun _ hx => .inl hx)) ?stabs10 ?stepss10 ?dones10
      case htls10 => simp only [List.drop_succ_cons, List.drop_zero]; rfl
      case hfrs10 => intro vals; simp only [putAll, dstAt, Act.put, List.getElem?_toArray, List.getElem?_cons_zero, List.getElem?_cons_succ, Option.bind_some, List.setIfInBounds_toArray, List.set_cons_zero, List.set_cons_succ]; rfl
      case stabs10 =>
        intro i v wa wb h
        try dsimp only
        split <;> first | exact id
      case stepss10 =>
        refine ⟨?_, ?_, ?_, ?_, ?_, ?_, ?_, ?_, trivial⟩
        · intro vals wr hR hp K hK
          dsimp only at hK ⊢
          clear hp
          unfold RunsOp
          go_simp
          exact hK.out _ _ ⟨_, rfl, Only.refl _ _, rfl⟩
        · intro vals wr hR hp K hK
          dsimp only at hK ⊢
          obtain ⟨p0, -⟩ := hp
          replace p0 := p0 rfl
          dsimp only at p0
          rw [p0] at hK ⊢
          clear p0
          unfold RunsOp
          obtain ⟨m0, m1, m2, m3, m4, m5, m6, m7, m8, m9, m10, m11, m12, m13, ml⟩ := (hR.blk (Blk.drew HMr.out) (by simp)).facts14
          go_simp
          exact hK.out _ _ ⟨_, rfl, Only.refl _ _, rfl⟩
        · intro vals wr hR hp K hK
          dsimp only at hK ⊢
          clear hp
          unfold RunsOp
          go_simp
          exact hK.out _ _ ⟨_, rfl, Only.refl _ _, rfl⟩
        · intro vals wr hR hp K hK
          dsimp only at hK ⊢
          obtain ⟨p2, -⟩ := hp
          replace p2 := p2 rfl
          dsimp only at p2
          rw [p2] at hK ⊢
          clear p2
          unfold RunsOp
          obtain ⟨m0, m1, m2, m3, m4, m5, m6, m7, m8, m9, m10, m11, m12, m13, ml⟩ := (hR.blk (Blk.drew HMr.out) (by simp)).facts14
          go_simp
          exact hK.out _ _ ⟨_, rfl, Only.refl _ _, rfl⟩
        · intro vals wr hR hp K hK
          dsimp only at hK ⊢
          clear hp
          unfold RunsOp
          go_simp
          exact hK.out _ _ ⟨_, rfl, Only.refl _ _, rfl⟩
        · intro vals wr hR hp K hK
          dsimp only at hK ⊢
          obtain ⟨p4, -⟩ := hp
          replace p4 := p4 rfl
          dsimp only at p4
          rw [p4] at hK ⊢
          clear p4
          unfold RunsOp
          go_simp
          exact hK.out _ _ ⟨_, rfl, Only.refl _ _, rfl⟩
        · intro vals wr hR hp K hK
          dsimp only at hK ⊢
          obtain ⟨p3, p5, -⟩ := hp
          replace p3 := p3 rfl
          replace p5 := p5 rfl
          dsimp only at p3 p5
          rw [p3, p5] at hK ⊢
          clear p3 p5
          unfold RunsOp
          go_simp
          refine (ports_nil _ _).mono ?_
          rintro e' w2 ⟨rfl, o2⟩
          exact hK.out _ _ ⟨_, rfl, o2, rfl⟩
        · intro vals wr hR hp K hK
          dsimp only at hK ⊢
          obtain ⟨p1, p6, -, -⟩ := hp
          replace p1 := p1 rfl
          replace p6 := p6 rfl
          dsimp only at p1 p6
          rw [p1, p6] at hK ⊢
          clear p1 p6
          unfold RunsOp
          go_simp
          refine (ports_nil _ _).mono ?_
          rintro e' w2 ⟨rfl, o2⟩
          exact hK.out _ _ ⟨_, rfl, o2, rfl⟩
      case dones10 =>
        intro vals wd hR hF
        rw [show vals 7 = .int .i64 599 from hF 7 (by decide)]
        have HW1 := Lib.hid (HOm.out.trans ((Only.refl [] _).drew.trans hR (by simp)) (by simp))
        have HM1 := Lib.hid (((Only.refl [] _).drew.trans hR (by simp)).blk HMr.out (by simp))
        clear hR hF HMr
        have HMr := HM1
        clear HM1
        gi_wp2_with (fail)
        go_wp2_with (fail)
        refine (wpIn_wide (n := 9)).1 ?_
        refine wpIn_region_relR 13 (Only []) (fr := ?frs11) (tl := ?tls11) (fun iq v wv => match iq with
          | 0 => v = .pointer (some ⟨mb, 10, none⟩)
          | 1 => v = .slice none 0 0
          | 2 => v = .pointer (some ⟨mb, 8, none⟩)
          | 3 => v = .slice none 0 0
          | 4 => v = .pointer (some ⟨mb, 7, none⟩)
          | 5 => v = .slice none 0 0
          | 6 => v = .pointer (some ⟨mb, 4, none⟩)
          | 7 => v = .slice none 0 0
          | 8 => v = .int .i64 599
          | 9 => v = .int .i64 (599)
          | 10 => v = .int .i64 (599)
          | 11 => v = .int .i64 (599)
          | 12 => v = .int .i64 (599)
          | _ => True) (.inl rfl) (by kernel_rfl) (by kernel_rfl) (by kernel_rfl) (by kernel_rfl) (by kernel_rfl) (by kernel_rfl) (by decide) ?htls11 ?hfrs11 (Only.refl _ _) (fun _ _ _ h k => h.trans k (fun _ hx => .inl hx)) ?stabs11 ?stepss11 ?dones11
        case htls11 => simp only [List.drop_succ_cons, List.drop_zero]; rfl
        case hfrs11 => intro vals; simp only [putAll, dstAt, Act.put, List.getElem?_toArray, List.getElem?_cons_zero, List.getElem?_cons_succ, Option.bind_some, List.setIfInBounds_toArray, List.set_cons_zero, List.set_cons_succ]; rfl
        case stabs11 =>
          intro i v wa wb h
          try dsimp only
          split <;> first | exact id
        case stepss11 =>
          refine ⟨?_, ?_, ?_, ?_, ?_, ?_, ?_, ?_, ?_, ?_, ?_, ?_, ?_, trivial⟩
          · intro vals wr hR hp K hK
            dsimp only at hK ⊢
            clear hp
            unfold RunsOp
            go_simp
            exact hK.out _ _ ⟨_, rfl, Only.refl _ _, rfl⟩
          · intro vals wr hR hp K hK
            dsimp only at hK ⊢
            obtain ⟨p0, -⟩ := hp
            replace p0 := p0 rfl
            dsimp only at p0
            rw [p0] at hK ⊢
            clear p0
            unfold RunsOp
            obtain ⟨m0, m1, m2, m3, m4, m5, m6, m7, m8, m9, m10, m11, m12, m13, ml⟩ := (hR.blk (Blk.drew HMr.out) (by simp)).facts14
            go_simp
            exact hK.out _ _ ⟨_, rfl, Only.refl _ _, rfl⟩
          · intro vals wr hR hp K hK
            dsimp only at hK ⊢
            clear hp
            unfold RunsOp
            go_simp
            exact hK.out _ _ ⟨_, rfl, Only.refl _ _, rfl⟩
          · intro vals wr hR hp K hK
            dsimp only at hK ⊢
            obtain ⟨p2, -⟩ := hp
            replace p2 := p2 rfl
            dsimp only at p2
            rw [p2] at hK ⊢
            clear p2
            unfold RunsOp
            obtain ⟨m0, m1, m2, m3, m4, m5, m6, m7, m8, m9, m10, m11, m12, m13, ml⟩ := (hR.blk (Blk.drew HMr.out) (by simp)).facts14
            go_simp
            exact hK.out _ _ ⟨_, rfl, Only.refl _ _, rfl⟩
          · intro vals wr hR hp K hK
            dsimp only at hK ⊢
            clear hp
            unfold RunsOp
            go_simp
            exact hK.out _ _ ⟨_, rfl, Only.refl _ _, rfl⟩
          · intro vals wr hR hp K hK
            dsimp only at hK ⊢
            obtain ⟨p4, -⟩ := hp
            replace p4 := p4 rfl
            dsimp only at p4
            rw [p4] at hK ⊢
            clear p4
            unfold RunsOp
            obtain ⟨m0, m1, m2, m3, m4, m5, m6, m7, m8, m9, m10, m11, m12, m13, ml⟩ := (hR.blk (Blk.drew HMr.out) (by simp)).facts14
            go_simp
            exact hK.out _ _ ⟨_, rfl, Only.refl _ _, rfl⟩
          · intro vals wr hR hp K hK
            dsimp only at hK ⊢
            clear hp
            unfold RunsOp
            go_simp
            exact hK.out _ _ ⟨_, rfl, Only.refl _ _, rfl⟩
          · intro vals wr hR hp K hK
            dsimp only at hK ⊢
            obtain ⟨p6, -⟩ := hp
            replace p6 := p6 rfl
            dsimp only at p6
            rw [p6] at hK ⊢
            clear p6
            unfold RunsOp
            obtain ⟨m0, m1, m2, m3, m4, m5, m6, m7, m8, m9, m10, m11, m12, m13, ml⟩ := (hR.blk (Blk.drew HMr.out) (by simp)).facts14
            go_simp
            exact hK.out _ _ ⟨_, rfl, Only.refl _ _, rfl⟩
          · intro vals wr hR hp K hK
            dsimp only at hK ⊢
            clear hp
            unfold RunsOp
            go_simp
            exact hK.out _ _ ⟨_, rfl, Only.refl _ _, rfl⟩
          · intro vals wr hR hp K hK
            dsimp only at hK ⊢
            obtain ⟨p7, p8, -⟩ := hp
            replace p7 := p7 rfl
            replace p8 := p8 rfl
            dsimp only at p7 p8
            rw [p7, p8] at hK ⊢
            clear p7 p8
            unfold RunsOp
            go_simp
            refine (sets_nil _ _).mono ?_
            rintro e' w2 ⟨rfl, o2⟩
            exact hK.out _ _ ⟨_, rfl, o2, rfl⟩
          · intro vals wr hR hp K hK
            dsimp only at hK ⊢
            obtain ⟨p5, p9, -, -⟩ := hp
            replace p5 := p5 rfl
            replace p9 := p9 rfl
            dsimp only at p5 p9
            rw [p5, p9] at hK ⊢
            clear p5 p9
            unfold RunsOp
            go_simp
            refine (sets_nil _ _).mono ?_
            rintro e' w2 ⟨rfl, o2⟩
            exact hK.out _ _ ⟨_, rfl, o2, rfl⟩
          · intro vals wr hR hp K hK
            dsimp only at hK ⊢
            obtain ⟨p3, p10, -, -⟩ := hp
            replace p3 := p3 rfl
            replace p10 := p10 rfl
            dsimp only at p3 p10
            rw [p3, p10] at hK ⊢
            clear p3 p10
            unfold RunsOp
            go_simp
            refine (sets_nil _ _).mono ?_
            rintro e' w2 ⟨rfl, o2⟩
            exact hK.out _ _ ⟨_, rfl, o2, rfl⟩
          · intro vals wr hR hp K hK
            dsimp only at hK ⊢
            obtain ⟨p1, p11, -, -⟩ := hp
            replace p1 := p1 rfl
            replace p11 := p11 rfl
            dsimp only at p1 p11
            rw [p1, p11] at hK ⊢
            clear p1 p11
            unfold RunsOp
            go_simp
            refine (sets_nil _ _).mono ?_
            rintro e' w2 ⟨rfl, o2⟩
            exact hK.out _ _ ⟨_, rfl, o2, rfl⟩
        case dones11 =>
          intro vals wd hR hF
          rw [show vals 12 = .int .i64 599 from hF 12 (by decide)]
          have HW2 := Lib.hid ((HOr.out.trans HW1.out (by simp)).trans ((Only.refl [] _).drew.trans hR (by simp)) (by simp))
          have HM2 := Lib.hid (((Only.refl [] _).drew.trans hR (by simp)).blk HMr.out (by simp))
          have HBd := Lib.hid ((HW1.out.trans ((Only.refl [] _).drew.trans hR (by simp)) (by simp)).blk HB.out (by simp))
          clear hR hF HMr
          gi_wp2_with (fail)
          go_wp2_with (fail)
          go_loopw [3, 6] (fun r j wr => ∃ (x : Int), r = .int .i64 x ∧ (j = .int .i64 0 ∧ x = 599 ∨ j = .int .i64 1) ∧ Hid (Blk wr w.heap.size 65 #[.slice (some ⟨pb, 0, none⟩) 1 1, .string ⟨#[]⟩]) ∧ Hid (Blk wr mb 62 #[.string ⟨#[]⟩, .bool false, .slice none 0 0, .slice none 0 0, .slice none 0 0, .slice (some ⟨tb, 0, none⟩) 1 1, .slice none 0 0, .slice none 0 0, .slice none 0 0, .int .i64 0, .slice none 0 0, .slice none 0 0, .slice none 0 0, .slice none 0 0]) ∧ Hid (Only [] w wr)) (fun _ j _ => 1 - (intOf j).toNat)
          case atStart => exact ⟨599, rfl, .inl ⟨rfl, rfl⟩, HBd, HM2, HW2⟩
          case round =>
            obtain ⟨x, rfl, hk, HBk, HMk, HOk⟩ := hrel
            obtain ⟨m0, m1, m2, m3, m4, m5, m6, m7, m8, m9, m10, m11, m12, m13, ml⟩ := HMk.out.facts14
            rcases hk with ⟨rfl, rfl⟩ | rfl
            · obtain ⟨k0, k1, k2, k3, k4, kl⟩ := (HOk.out.blk HT0.out (by simp)).facts5
              go_wp2_with (fail)
              refine (CE.out _ HOk.out).mono ?_
              rintro r w2 ⟨x2, rfl, o2⟩
              have HB2 := Lib.hid (o2.blk HBk.out (by simp))
              have HM3 := Lib.hid (o2.blk HMk.out (by simp))
              have HO3 := Lib.hid (HOk.out.trans o2 (by simp))
              clear o2 k0 k1 k2 k3 k4 kl
              clear m0 m1 m2 m3 m4 m5 m6 m7 m8 m9 m10 m11 m12 m13 ml
              go_wp2_with (fail)
              go_roundw
              case rel => exact ⟨x2, rfl, .inr rfl, HB2, HM3, HO3⟩
              case measure => simp [intOf]
            · go_wp2_with (fail)
              clear m0 m1 m2 m3 m4 m5 m6 m7 m8 m9 m10 m11 m12 m13 ml
              go_loopw [3, 7, 8] (fun r j _ wr => r = .int .i64 x ∧ j = .int .i64 0 ∧ Hid (Blk wr w.heap.size 65 #[.slice (some ⟨pb, 0, none⟩) 1 1, .string ⟨#[]⟩]) ∧ Hid (Blk wr mb 62 #[.string ⟨#[]⟩, .bool false, .slice none 0 0, .slice none 0 0, .slice none 0 0, .slice (some ⟨tb, 0, none⟩) 1 1, .slice none 0 0, .slice none 0 0, .slice none 0 0, .int .i64 0, .slice none 0 0, .slice none 0 0, .slice none 0 0, .slice none 0 0]) ∧ Hid (Only [] w wr)) (fun _ _ _ _ => 0)
              case atStart => exact ⟨rfl, rfl, HBk, HMk, HOk⟩
              case round =>
                obtain ⟨rfl, rfl, HBn, HMn, HOn⟩ := hrel
                obtain ⟨m0, m1, m2, m3, m4, m5, m6, m7, m8, m9, m10, m11, m12, m13, ml⟩ := HMn.out.facts14
                go_wp2_with (fail)
                clear m0 m1 m2 m3 m4 m5 m6 m7 m8 m9 m10 m11 m12 m13 ml
                go_loopw [3, 9] (fun r j wr => r = .int .i64 x ∧ j = .int .i64 0 ∧ Hid (Blk wr w.heap.size 65 #[.slice (some ⟨pb, 0, none⟩) 1 1, .string ⟨#[]⟩]) ∧ Hid (Blk wr mb 62 #[.string ⟨#[]⟩, .bool false, .slice none 0 0, .slice none 0 0, .slice none 0 0, .slice (some ⟨tb, 0, none⟩) 1 1, .slice none 0 0, .slice none 0 0, .slice none 0 0, .int .i64 0, .slice none 0 0, .slice none 0 0, .slice none 0 0, .slice none 0 0]) ∧ Hid (Only [] w wr)) (fun _ _ _ => 0)
                case atStart => exact ⟨rfl, rfl, HBn, HMn, HOn⟩
                case round =>
                  obtain ⟨rfl, rfl, HBo, HMo, HOo⟩ := hrel
                  obtain ⟨m0, m1, m2, m3, m4, m5, m6, m7, m8, m9, m10, m11, m12, m13, ml⟩ := HMo.out.facts14
                  go_wp2_with (fail)
                  go_roundw
                  case rel => exact ⟨x, rfl, .inr rfl, HBo, HOo⟩
                  case measure => simp [intOf]
    · by_cases hx : x < 0
      · have d0 : decide (x < 0) = true := decide_eq_true hx
        go_wp2_with (fail)
        go_ret
        first | exact ⟨_, rfl, HOr.out⟩ | exact ⟨⟨_, rfl⟩, HOr.out⟩ | exact HOr.out
      · have d0 : decide (x < 0) = false := decide_eq_false hx
        go_wp2_with (fail)
        go_ret
        first | exact ⟨_, rfl, HOr.out⟩ | exact ⟨⟨_, rfl⟩, HOr.out⟩ | exact HOr.out
set_option maxHeartbeats 4000000 in
theorem small_any {e : Ex} {w : World} (hL : Lies w e) : Calls Tryd.prog 8 #[e.val] w fun r w' => (∃ b : Bool, r = .returned (.bool b)) ∧ Only [] w w' := by
  obtain ⟨op, n, nm, sb, A, cap, args⟩ := e
  obtain ⟨ne, hne⟩ : ∃ ne, args.length = ne := ⟨_, rfl⟩
  have ho : Only [] w (((w.alloc (.cells #[.int .i64 op, .int .i64 n, .string nm, .string sb, .slice A ne cap] 24)).alloc (.cells #[.int .i64 op, .int .i64 n, .string nm, .string sb, .slice A ne cap] 24)).alloc (.cells #[.string ⟨#[]⟩, .bool false, .slice none 0 0, .slice none 0 0, .slice none 0 0, .slice (some ⟨w.heap.size + 1, 0, none⟩) 1 1, .slice none 0 0, .slice none 0 0, .slice none 0 0, .int .i64 0, .slice none 0 0, .slice none 0 0, .slice none 0 0, .slice none 0 0] 62)) := (((Only.refl [] w).alloc _).alloc _).alloc _
  have h1 := Blk.new (w.alloc (.cells #[.int .i64 op, .int .i64 n, .string nm, .string sb, .slice A ne cap] 24)) 24 #[.int .i64 op, .int .i64 n, .string nm, .string sb, .slice A ne cap]
  have h2 := Blk.new ((w.alloc (.cells #[.int .i64 op, .int .i64 n, .string nm, .string sb, .slice A ne cap] 24)).alloc (.cells #[.int .i64 op, .int .i64 n, .string nm, .string sb, .slice A ne cap] 24)) 62 #[.string ⟨#[]⟩, .bool false, .slice none 0 0, .slice none 0 0, .slice none 0 0, .slice (some ⟨w.heap.size + 1, 0, none⟩) 1 1, .slice none 0 0, .slice none 0 0, .slice none 0 0, .int .i64 0, .slice none 0 0, .slice none 0 0, .slice none 0 0, .slice none 0 0]
  simp only [World.size_alloc] at h1 h2
  have HC := Lib.hid (Small16 hne (hL.keep ho) h2 (h1.alloc _))
  have HO := Lib.hid ho
  show Calls Tryd.prog 8 #[.agg #[.int .i64 op, .int .i64 n, .string nm, .string sb, .slice A args.length cap]] w _
  rw [hne]
  have h0 := Blk.new w 24 #[.int .i64 op, .int .i64 n, .string nm, .string sb, .slice A ne cap]
  obtain ⟨x0, x1, x2, x3, x4, xl⟩ := h0.facts5
  clear hL ho h0 h1 h2 hne
  go_enter Tryd.func8, Tryd.ntmps8
  go_wp2_with (fail)
  refine HC.out.mono ?_
  rintro r w4 ⟨x, rfl, o4⟩
  go_wp2_with (fail)
  go_ret
  exact ⟨⟨_, rfl⟩, HO.out.trans o4 (by simp)⟩
end Go.Proofs.YtjhpckeoackblaaDoor
