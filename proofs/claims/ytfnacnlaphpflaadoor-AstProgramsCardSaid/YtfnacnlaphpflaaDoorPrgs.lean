/- AstPrograms. -/
import Derived.Test.YtfnacnlaphpflaaDoorPRm
import Derived.Test.YtfnacnlaphpflaaDoorPQm
import Derived.Test.YtfnacnlaphpflaaDoorSm24
import Derived.Test.YtfnacnlaphpflaaDoorAwake
import Derived.Test.YtfnacnlaphpflaaDoorFactsG
namespace Go.Proofs.YtfnacnlaphpflaaDoor
open Go.RowKit Go.Kx
set_option maxRecDepth 100000
/-- a value that is there where the first bit (the second bit) is off -/
def D1 (g : Option Bool × Option Bool) (p : Value → Prop) (v : Value) : Prop := (g.1 = some false ∧ p v) ∨ (g.1 = some true ∧ v = undef)
def D2 (g : Option Bool × Option Bool) (x v : Value) : Prop := (g.2 = some false ∧ v = x) ∨ (g.2 = some true ∧ v = undef)
theorem D1.yes {g : Option Bool × Option Bool} {p : Value → Prop} {v : Value} (hg : g.1 = some false) (h : D1 g p v) : p v := by
  rcases h with ⟨_, h⟩ | ⟨h, _⟩
  · exact h
  · rw [hg] at h; cases h
theorem D1.no {g : Option Bool × Option Bool} {p : Value → Prop} {v : Value} (hg : g.1 = some true) (h : D1 g p v) : v = undef := by
  rcases h with ⟨h, _⟩ | ⟨_, h⟩
  · rw [hg] at h; cases h
  · exact h
theorem D2.yes {g : Option Bool × Option Bool} {x v : Value} (hg : g.2 = some false) (h : D2 g x v) : v = x := by
  rcases h with ⟨_, h⟩ | ⟨h, _⟩
  · exact h
  · rw [hg] at h; cases h
theorem D2.no {g : Option Bool × Option Bool} {x v : Value} (hg : g.2 = some true) (h : D2 g x v) : v = undef := by
  rcases h with ⟨h, _⟩ | ⟨_, h⟩
  · rw [hg] at h; cases h
  · exact h
def FPr (va : Value) (sp : Bool) (g : Option Bool × Option Bool) (i : Nat) (v : Value) : Prop :=
  match i with
  | 0 => v = va
  | 1 => ∃ z : Int, v = .int .i64 z
  | 2 => ∃ b : Bool, v = .bool b
  | 3 => ∃ b, g.2 = some b ∧ v = .bool b
  | 4 => D2 g (.bool true) v
  | 5 => D2 g (.bool true) v
  | 6 => D2 g (va) v
  | 7 => D2 g (.bool sp) v
  | 8 => D2 g (va) v
  | 9 => D2 g (.bool sp) v
  | 10 => D2 g (.bool true) v
  | 11 => D2 g (.bool true) v
  | 12 => v = .bool true
  | _ => True
theorem FPr.set2 {va : Value} {sp : Bool} {g : Option Bool × Option Bool} {b : Option Bool} {i : Nat} {v : Value} {R : Nat → Bool} (hR : (([3, 4, 5, 6, 7, 8, 9, 10, 11] : List Nat).all fun j => j == 3 || R j) = true) (hj : i ≠ 3) (hn : R i = false) (h : FPr va sp g i v) : FPr va sp (g.1, b) i v := by
  have hk : i ∈ ([3, 4, 5, 6, 7, 8, 9, 10, 11] : List Nat) → (i == 3 || R i) = true := fun m => List.all_eq_true.1 hR i m
  rw [hn, Bool.or_false] at hk
  clear hR hn
  unfold FPr at h ⊢
  split at h <;> first | exact h | exact absurd rfl hj | exact absurd (hk (by decide)) (by decide)
set_option maxHeartbeats 8000000 in
theorem progs_any {A : Option Addr} {c : Nat} {us : List Md} {rt : ByteArray} {w : World} (hA : RowX Md.cs 14 Md.Li w A us) (hr : okS rt) (hW : WordsIs w) :
    Calls Tryd.prog 8 #[.agg #[.slice A us.length c, .string rt]] w fun e w' => e = .returned (.bool true) ∧ Only [] w w' := by
  have C1 := Lib.hid (fun W (o : Only [] w W) => (show Calls Tryd.prog 24 #[.agg #[.slice A us.length c, .string rt]] W fun e w' => (e = .returned (.int .i64 0) ∨ (e = .returned (.int .i64 1) ∧ smallP us)) ∧ Only [] W w' from small_any (hA.keep Md.Li.keep o)))
  have C2 := Lib.hid (fun W (o : Only [] w W) => awake_any (hW.keep o))
  have C3 := Lib.hid (fun W (o : Only [] w W) => (show Calls Tryd.prog 27 #[.agg #[.slice A us.length c, .string rt]] W fun e w' => e = .returned (.bool (okP us rt)) ∧ Only [] W w' from rightprog_any (hA.keep Md.Li.keep o) hr (hW.keep o)))
  have C4 := Lib.hid (fun W (o : Only [] w W) => (show Calls Tryd.prog 28 #[.agg #[.slice A us.length c, .string rt]] W fun e w' => e = .returned (.bool (okP us rt)) ∧ Only [] W w' from qright_any (hA.keep Md.Li.keep o) hr))
  clear hA hr hW
  generalize okP us rt = sp at *
  have ESP := Lib.hid (show (sp == sp) = true from by simp)
  have HX0 := Lib.hid (Blk.new w 39 #[.slice A us.length c, .string rt])
  have HO0 := Lib.hid (show Only [] w (w.alloc (.cells #[.slice A us.length c, .string rt] 39)) from (Only.refl [] w).alloc _)
  go_enter Tryd.func8, Tryd.ntmps8
  go_wp2_with (fail)
  obtain ⟨w1, hw1⟩ : ∃ W : World, w.alloc (.cells #[.slice A us.length c, .string rt] 39) = W := ⟨_, rfl⟩
  rw [hw1] at HX0 HO0 ⊢
  clear hw1
  have HX := HX0
  have HO := HO0
  have K1 := Lib.hid (fun W (o : Only [] w1 W) => C1.out W (HO.out.trans o (by simp)))
  have K2 := Lib.hid (fun W (o : Only [] w1 W) => C2.out W (HO.out.trans o (by simp)))
  have K3 := Lib.hid (fun W (o : Only [] w1 W) => C3.out W (HO.out.trans o (by simp)))
  have K4 := Lib.hid (fun W (o : Only [] w1 W) => C4.out W (HO.out.trans o (by simp)))
  clear C1 C2 C3 C4 HX0 HO0
  refine (wpIn_wide (n := 9)).1 ?_
  refine wpIn_region_relG 13 (Only []) (fun _ _ => True) (fun g i v _ => FPr (.agg #[.slice A us.length c, .string rt]) sp g i v) (none, none) (fr := ?frs) (tl := ?tls) (.inl rfl) (by kernel_rfl) (by kernel_rfl) (by kernel_rfl) (by kernel_rfl) (by kernel_rfl) (by kernel_rfl) (by decide) ?htls ?hfrs (Only.refl _ _) (fun _ _ _ h k => h.trans k (fun _ hx => .inl hx)) trivial ?stepss ?dones
  case htls => simp only [List.drop_succ_cons, List.drop_zero]; rfl
  case hfrs => intro vals; simp only [putAll, dstAt, Act.put, List.getElem?_toArray, List.getElem?_cons_zero, List.getElem?_cons_succ, Option.bind_some, List.setIfInBounds_toArray, List.set_cons_zero, List.set_cons_succ]; rfl
  case stepss =>
    refine ⟨?_, ?_, ?_, ?_, ?_, ?_, ?_, ?_, ?_, ?_, ?_, ?_, ?_, trivial⟩
    · intro g vals wr hR hV hp K hK
      dsimp only at hK ⊢
      clear hp
      unfold RunsOp
      obtain ⟨k0, k1, kl⟩ := (hR.blk (Blk.drew HX.out) (by simp)).facts2
      go_simp
      exact hK.out _ _ ⟨_, g, rfl, Only.refl _ _, trivial, rfl, fun _ _ _ _ h => h⟩
    · intro g vals wr hR hV hp K hK
      dsimp only at hK ⊢
      obtain ⟨p0, -⟩ := hp
      replace p0 := p0 rfl
      replace p0 : vals 0 = .agg #[.slice A us.length c, .string rt] := p0
      rw [p0] at hK ⊢
      clear p0
      unfold RunsOp
      go_simp
      refine (K1.out _ ((Only.refl [] _).drew.trans hR (by simp))).mono ?_
      rintro e' w2 ⟨rfl | ⟨rfl, -⟩, o2⟩
      all_goals exact hK.out _ _ ⟨_, g, rfl, o2, trivial, ⟨_, rfl⟩, fun _ _ _ _ h => h⟩
    · intro g vals wr hR hV hp K hK
      dsimp only at hK ⊢
      obtain ⟨p1, -⟩ := hp
      replace p1 := p1 rfl
      obtain ⟨z1, p1⟩ := p1
      rw [p1] at hK ⊢
      clear p1
      unfold RunsOp
      go_simp
      exact hK.out _ _ ⟨_, g, rfl, Only.refl _ _, trivial, ⟨_, rfl⟩, fun _ _ _ _ h => h⟩
    · intro g vals wr hR hV hp K hK
      dsimp only at hK ⊢
      obtain ⟨p2, -, -⟩ := hp
      replace p2 := p2 rfl
      obtain ⟨z2, p2⟩ := p2
      rw [p2] at hK ⊢
      clear p2
      unfold RunsOp
      go_simp
      exact hK.out _ _ ⟨_, (g.1, some z2), rfl, Only.refl _ _, trivial, ⟨_, rfl, rfl⟩, fun j u hj hn h => FPr.set2 (R := fun j => reaches _ _ j 3) (by kernel_rfl) hj hn h⟩
    · intro g vals wr hR hV hp K hK
      dsimp only at hK ⊢
      obtain ⟨p3, -, -⟩ := hp
      replace p3 := p3 rfl
      obtain ⟨b, hg, p3⟩ := p3
      cases b
      · rw [p3] at hK ⊢
        clear p3
        unfold RunsOp
        go_simp
        refine (K2.out _ ((Only.refl [] _).drew.trans hR (by simp))).mono ?_
        rintro e' w2 ⟨rfl, o2⟩
        all_goals exact hK.out _ _ ⟨_, g, rfl, o2, trivial, .inl ⟨hg, rfl⟩, fun _ _ _ _ h => h⟩
      · rw [p3] at hK ⊢
        clear p3
        unfold RunsOp
        go_simp
        exact hK.out _ _ ⟨_, g, rfl, Only.refl _ _, trivial, .inr ⟨hg, rfl⟩, fun _ _ _ _ h => h⟩
    · intro g vals wr hR hV hp K hK
      dsimp only at hK ⊢
      obtain ⟨p4, -, p3, -⟩ := hp
      replace p4 := p4 rfl
      replace p3 := p3 rfl
      obtain ⟨b, hg, p3⟩ := p3
      cases b
      · replace p4 : D2 g (.bool true) (vals 4) := p4
        replace p4 := D2.yes hg p4
        rw [p3, p4] at hK ⊢
        clear p3 p4
        unfold RunsOp
        go_simp
        exact hK.out _ _ ⟨_, g, rfl, Only.refl _ _, trivial, .inl ⟨hg, rfl⟩, fun _ _ _ _ h => h⟩
      · replace p4 : D2 g (.bool true) (vals 4) := p4
        replace p4 := D2.no hg p4
        rw [p3, p4] at hK ⊢
        clear p3 p4
        unfold RunsOp
        go_simp
        exact hK.out _ _ ⟨_, g, rfl, Only.refl _ _, trivial, .inr ⟨hg, rfl⟩, fun _ _ _ _ h => h⟩
    · intro g vals wr hR hV hp K hK
      dsimp only at hK ⊢
      obtain ⟨p5, -⟩ := hp
      replace p5 := p5 rfl
      replace p5 : D2 g (.bool true) (vals 5) := p5
      rcases p5 with ⟨hg, p5⟩ | ⟨hg, p5⟩
      · rw [p5] at hK ⊢
        clear p5
        unfold RunsOp
        obtain ⟨k0, k1, kl⟩ := (hR.blk (Blk.drew HX.out) (by simp)).facts2
        go_simp
        exact hK.out _ _ ⟨_, g, rfl, Only.refl _ _, trivial, .inl ⟨hg, rfl⟩, fun _ _ _ _ h => h⟩
      · rw [p5] at hK ⊢
        clear p5
        unfold RunsOp
        go_simp
        exact hK.out _ _ ⟨_, g, rfl, Only.refl _ _, trivial, .inr ⟨hg, rfl⟩, fun _ _ _ _ h => h⟩
    · intro g vals wr hR hV hp K hK
      dsimp only at hK ⊢
      obtain ⟨p6, p5, -, -⟩ := hp
      replace p6 := p6 rfl
      replace p5 := p5 rfl
      replace p6 : D2 g (.agg #[.slice A us.length c, .string rt]) (vals 6) := p6
      rcases p6 with ⟨hg, p6⟩ | ⟨hg, p6⟩
      · replace p5 : D2 g (.bool true) (vals 5) := p5
        replace p5 := D2.yes hg p5
        rw [p6, p5] at hK ⊢
        clear p6 p5
        unfold RunsOp
        go_simp
        refine (K3.out _ ((Only.refl [] _).drew.trans hR (by simp))).mono ?_
        rintro e' w2 ⟨rfl, o2⟩
        all_goals exact hK.out _ _ ⟨_, g, rfl, o2, trivial, .inl ⟨hg, rfl⟩, fun _ _ _ _ h => h⟩
      · replace p5 : D2 g (.bool true) (vals 5) := p5
        replace p5 := D2.no hg p5
        rw [p6, p5] at hK ⊢
        clear p6 p5
        unfold RunsOp
        go_simp
        exact hK.out _ _ ⟨_, g, rfl, Only.refl _ _, trivial, .inr ⟨hg, rfl⟩, fun _ _ _ _ h => h⟩
    · intro g vals wr hR hV hp K hK
      dsimp only at hK ⊢
      obtain ⟨p5, -⟩ := hp
      replace p5 := p5 rfl
      replace p5 : D2 g (.bool true) (vals 5) := p5
      rcases p5 with ⟨hg, p5⟩ | ⟨hg, p5⟩
      · rw [p5] at hK ⊢
        clear p5
        unfold RunsOp
        obtain ⟨k0, k1, kl⟩ := (hR.blk (Blk.drew HX.out) (by simp)).facts2
        go_simp
        exact hK.out _ _ ⟨_, g, rfl, Only.refl _ _, trivial, .inl ⟨hg, rfl⟩, fun _ _ _ _ h => h⟩
      · rw [p5] at hK ⊢
        clear p5
        unfold RunsOp
        go_simp
        exact hK.out _ _ ⟨_, g, rfl, Only.refl _ _, trivial, .inr ⟨hg, rfl⟩, fun _ _ _ _ h => h⟩
    · intro g vals wr hR hV hp K hK
      dsimp only at hK ⊢
      obtain ⟨p8, -, p5, -⟩ := hp
      replace p8 := p8 rfl
      replace p5 := p5 rfl
      replace p8 : D2 g (.agg #[.slice A us.length c, .string rt]) (vals 8) := p8
      rcases p8 with ⟨hg, p8⟩ | ⟨hg, p8⟩
      · replace p5 : D2 g (.bool true) (vals 5) := p5
        replace p5 := D2.yes hg p5
        rw [p8, p5] at hK ⊢
        clear p8 p5
        unfold RunsOp
        go_simp
        refine (K4.out _ ((Only.refl [] _).drew.trans hR (by simp))).mono ?_
        rintro e' w2 ⟨rfl, o2⟩
        all_goals exact hK.out _ _ ⟨_, g, rfl, o2, trivial, .inl ⟨hg, rfl⟩, fun _ _ _ _ h => h⟩
      · replace p5 : D2 g (.bool true) (vals 5) := p5
        replace p5 := D2.no hg p5
        rw [p8, p5] at hK ⊢
        clear p8 p5
        unfold RunsOp
        go_simp
        exact hK.out _ _ ⟨_, g, rfl, Only.refl _ _, trivial, .inr ⟨hg, rfl⟩, fun _ _ _ _ h => h⟩
    · intro g vals wr hR hV hp K hK
      dsimp only at hK ⊢
      obtain ⟨p7, p9, p5, -⟩ := hp
      replace p7 := p7 rfl
      replace p9 := p9 rfl
      replace p5 := p5 rfl
      replace p7 : D2 g (.bool sp) (vals 7) := p7
      rcases p7 with ⟨hg, p7⟩ | ⟨hg, p7⟩
      · replace p9 : D2 g (.bool sp) (vals 9) := p9
        replace p9 := D2.yes hg p9
        replace p5 : D2 g (.bool true) (vals 5) := p5
        replace p5 := D2.yes hg p5
        rw [p7, p9, p5] at hK ⊢
        clear p7 p9 p5
        unfold RunsOp
        have eqq := ESP.out
        go_simp
        exact hK.out _ _ ⟨_, g, rfl, Only.refl _ _, trivial, .inl ⟨hg, rfl⟩, fun _ _ _ _ h => h⟩
      · replace p9 : D2 g (.bool sp) (vals 9) := p9
        replace p9 := D2.no hg p9
        replace p5 : D2 g (.bool true) (vals 5) := p5
        replace p5 := D2.no hg p5
        rw [p7, p9, p5] at hK ⊢
        clear p7 p9 p5
        unfold RunsOp
        go_simp
        exact hK.out _ _ ⟨_, g, rfl, Only.refl _ _, trivial, .inr ⟨hg, rfl⟩, fun _ _ _ _ h => h⟩
    · intro g vals wr hR hV hp K hK
      dsimp only at hK ⊢
      obtain ⟨p5, p10, p3, -⟩ := hp
      replace p5 := p5 rfl
      replace p10 := p10 rfl
      replace p3 := p3 rfl
      obtain ⟨b, hg, p3⟩ := p3
      cases b
      · replace p5 : D2 g (.bool true) (vals 5) := p5
        replace p5 := D2.yes hg p5
        replace p10 : D2 g (.bool true) (vals 10) := p10
        replace p10 := D2.yes hg p10
        rw [p3, p5, p10] at hK ⊢
        clear p3 p5 p10
        unfold RunsOp
        go_simp
        exact hK.out _ _ ⟨_, g, rfl, Only.refl _ _, trivial, .inl ⟨hg, rfl⟩, fun _ _ _ _ h => h⟩
      · replace p5 : D2 g (.bool true) (vals 5) := p5
        replace p5 := D2.no hg p5
        replace p10 : D2 g (.bool true) (vals 10) := p10
        replace p10 := D2.no hg p10
        rw [p3, p5, p10] at hK ⊢
        clear p3 p5 p10
        unfold RunsOp
        go_simp
        exact hK.out _ _ ⟨_, g, rfl, Only.refl _ _, trivial, .inr ⟨hg, rfl⟩, fun _ _ _ _ h => h⟩
    · intro g vals wr hR hV hp K hK
      dsimp only at hK ⊢
      obtain ⟨p3, p11, -⟩ := hp
      replace p3 := p3 rfl
      replace p11 := p11 rfl
      obtain ⟨b, hg, p3⟩ := p3
      cases b
      · replace p11 : D2 g (.bool true) (vals 11) := p11
        replace p11 := D2.yes hg p11
        rw [p3, p11] at hK ⊢
        clear p3 p11
        unfold RunsOp
        go_simp
        exact hK.out _ _ ⟨_, g, rfl, Only.refl _ _, trivial, rfl, fun _ _ _ _ h => h⟩
      · replace p11 : D2 g (.bool true) (vals 11) := p11
        replace p11 := D2.no hg p11
        rw [p3, p11] at hK ⊢
        clear p3 p11
        unfold RunsOp
        go_simp
        exact hK.out _ _ ⟨_, g, rfl, Only.refl _ _, trivial, rfl, fun _ _ _ _ h => h⟩
  case dones =>
    intro g vals wd hR hV hF
    have f12 : vals 12 = .bool true := hF 12 (by decide)
    have f0 : vals 0 = .agg #[.slice A us.length c, .string rt] := hF 0 (by decide)
    rw [f12, f0]
    clear f12 f0 hF
    have HO5 := Lib.hid (HO.out.trans ((Only.refl [] _).drew.trans hR (by simp)) (by simp))
    clear hR
    gi_wp2_with (fail)
    go_wp2_with (fail)
    go_ret
    exact ⟨rfl, HO5.out⟩
end Go.Proofs.YtfnacnlaphpflaaDoor
