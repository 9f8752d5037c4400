/- AstSame. -/
import Derived.Test.YtfnacnlaphpflaaDoorPSame2
import Derived.Test.YtfnacnlaphpflaaDoorPRS2
import Derived.Test.YtfnacnlaphpflaaDoorSm24
import Derived.Test.YtfnacnlaphpflaaDoorAwake
import Derived.Test.YtfnacnlaphpflaaDoorFactsG
namespace Go.Proofs.YtfnacnlaphpflaaDoor
open Go.RowKit Go.Kx
set_option maxRecDepth 100000
/-- a value that is there where the first bit (the second bit) is off -/
def D1 (g : Option Bool × Option Bool) (p : Value → Prop) (v : Value) : Prop := (g.1 = some false ∧ p v) ∨ (g.1 = some true ∧ v = undef)
def D2 (g : Option Bool × Option Bool) (x v : Value) : Prop := (g.2 = some false ∧ v = x) ∨ (g.2 = some true ∧ v = undef)
theorem D1.yes {g : Option Bool × Option Bool} {p : Value → Prop} {v : Value} (hg : g.1 = some false) (h : D1 g p v) : p v := by
  rcases h with ⟨_, h⟩ | ⟨h, _⟩
  · exact h
  · rw [hg] at h; cases h
theorem D1.no {g : Option Bool × Option Bool} {p : Value → Prop} {v : Value} (hg : g.1 = some true) (h : D1 g p v) : v = undef := by
  rcases h with ⟨h, _⟩ | ⟨_, h⟩
  · rw [hg] at h; cases h
  · exact h
theorem D2.yes {g : Option Bool × Option Bool} {x v : Value} (hg : g.2 = some false) (h : D2 g x v) : v = x := by
  rcases h with ⟨_, h⟩ | ⟨h, _⟩
  · exact h
  · rw [hg] at h; cases h
theorem D2.no {g : Option Bool × Option Bool} {x v : Value} (hg : g.2 = some true) (h : D2 g x v) : v = undef := by
  rcases h with ⟨h, _⟩ | ⟨_, h⟩
  · rw [hg] at h; cases h
  · exact h
def FSm (va vb : Value) (sp : Bool) (g : Option Bool × Option Bool) (i : Nat) (v : Value) : Prop :=
  match i with
  | 0 => v = va
  | 1 => ∃ z : Int, v = .int .i64 z
  | 2 => ∃ b : Bool, v = .bool b
  | 3 => ∃ b, g.1 = some b ∧ v = .bool b
  | 4 => D1 g (fun u => u = vb) v
  | 5 => D1 g (fun u => ∃ z : Int, u = .int .i64 z) v
  | 6 => D1 g (fun u => ∃ b : Bool, u = .bool b) v
  | 7 => ∃ b : Bool, v = .bool b
  | 8 => ∃ b, g.2 = some b ∧ v = .bool b
  | 9 => D2 g (.bool true) v
  | 10 => D2 g (.bool true) v
  | 11 => D2 g (va) v
  | 12 => D2 g (vb) v
  | 13 => D2 g (.bool sp) v
  | 14 => D2 g (va) v
  | 15 => D2 g (vb) v
  | 16 => D2 g (.bool sp) v
  | 17 => D2 g (.bool true) v
  | 18 => D2 g (.bool true) v
  | 19 => D2 g (.bool true) v
  | 20 => D2 g (va) v
  | 21 => D2 g (va) v
  | 22 => D2 g (.bool true) v
  | 23 => D2 g (.bool true) v
  | 24 => v = .bool true
  | _ => True
theorem FSm.set1 {va vb : Value} {sp : Bool} {g : Option Bool × Option Bool} {b : Option Bool} {i : Nat} {v : Value} {R : Nat → Bool} (hR : (([3, 4, 5, 6] : List Nat).all fun j => j == 3 || R j) = true) (hj : i ≠ 3) (hn : R i = false) (h : FSm va vb sp g i v) : FSm va vb sp (b, g.2) i v := by
  have hk : i ∈ ([3, 4, 5, 6] : List Nat) → (i == 3 || R i) = true := fun m => List.all_eq_true.1 hR i m
  rw [hn, Bool.or_false] at hk
  clear hR hn
  unfold FSm at h ⊢
  split at h <;> first | exact h | exact absurd rfl hj | exact absurd (hk (by decide)) (by decide)
theorem FSm.set2 {va vb : Value} {sp : Bool} {g : Option Bool × Option Bool} {b : Option Bool} {i : Nat} {v : Value} {R : Nat → Bool} (hR : (([8, 9, 10, 11, 12, 13, 14, 15, 16, 17, 18, 19, 20, 21, 22, 23] : List Nat).all fun j => j == 8 || R j) = true) (hj : i ≠ 8) (hn : R i = false) (h : FSm va vb sp g i v) : FSm va vb sp (g.1, b) i v := by
  have hk : i ∈ ([8, 9, 10, 11, 12, 13, 14, 15, 16, 17, 18, 19, 20, 21, 22, 23] : List Nat) → (i == 8 || R i) = true := fun m => List.all_eq_true.1 hR i m
  rw [hn, Bool.or_false] at hk
  clear hR hn
  unfold FSm at h ⊢
  split at h <;> first | exact h | exact absurd rfl hj | exact absurd (hk (by decide)) (by decide)
set_option maxHeartbeats 8000000 in
theorem sames_any {A B : Option Addr} {c d : Nat} {us vs : List Md} {r s : ByteArray} {w : World} (hA : RowX Md.cs 14 Md.Li w A us) (hB : RowX Md.cs 14 Md.Li w B vs) (hW : WordsIs w) :
    Calls Tryd.prog 7 #[.agg #[.slice A us.length c, .string r], .agg #[.slice B vs.length d, .string s]] w fun e w' => e = .returned (.bool true) ∧ Only [] w w' := by
  have C1 := Lib.hid (fun W (o : Only [] w W) => (show Calls Tryd.prog 24 #[.agg #[.slice A us.length c, .string r]] W fun e w' => (e = .returned (.int .i64 0) ∨ (e = .returned (.int .i64 1) ∧ smallP us)) ∧ Only [] W w' from small_any (hA.keep Md.Li.keep o)))
  have C2 := Lib.hid (fun W (o : Only [] w W) => (show Calls Tryd.prog 24 #[.agg #[.slice B vs.length d, .string s]] W fun e w' => (e = .returned (.int .i64 0) ∨ (e = .returned (.int .i64 1) ∧ smallP vs)) ∧ Only [] W w' from small_any (hB.keep Md.Li.keep o)))
  have C3 := Lib.hid (fun W (o : Only [] w W) => awake_any (hW.keep o))
  have C4 := Lib.hid (fun W (o : Only [] w W) => (show Calls Tryd.prog 25 #[.agg #[.slice A us.length c, .string r], .agg #[.slice B vs.length d, .string s]] W fun e w' => e = .returned (.bool (sameP us vs r s)) ∧ Only [] W w' from sameprog_any (hA.keep Md.Li.keep o) (hB.keep Md.Li.keep o)))
  have C5 := Lib.hid (fun W (o : Only [] w W) => (show Calls Tryd.prog 26 #[.agg #[.slice A us.length c, .string r], .agg #[.slice B vs.length d, .string s]] W fun e w' => e = .returned (.bool (sameP us vs r s)) ∧ Only [] W w' from rsameprog_any (hA.keep Md.Li.keep o) (hB.keep Md.Li.keep o)))
  have C6 := Lib.hid (fun W (o : Only [] w W) => (show Calls Tryd.prog 25 #[.agg #[.slice A us.length c, .string r], .agg #[.slice A us.length c, .string r]] W fun e w' => e = .returned (.bool true) ∧ Only [] W w' from by have h := sameprog_any (c := c) (d := c) (r := r) (s := r) (hA.keep Md.Li.keep o) (hA.keep Md.Li.keep o); rwa [sameP_refl] at h))
  clear hA hB hW
  generalize sameP us vs r s = sp at *
  have ESP := Lib.hid (show (sp == sp) = true from by simp)
  have h0 := Blk.new w 39 #[.slice A us.length c, .string r]
  have h1 := Blk.new (w.alloc (.cells #[.slice A us.length c, .string r] 39)) 39 #[.slice B vs.length d, .string s]
  simp only [World.size_alloc] at h1
  have HX0 := Lib.hid (show Blk ((w.alloc (.cells #[.slice A us.length c, .string r] 39)).alloc (.cells #[.slice B vs.length d, .string s] 39)) w.heap.size 39 #[.slice A us.length c, .string r] from h0.alloc _)
  have HY0 := Lib.hid h1
  have HO0 := Lib.hid (show Only [] w ((w.alloc (.cells #[.slice A us.length c, .string r] 39)).alloc (.cells #[.slice B vs.length d, .string s] 39)) from ((Only.refl [] w).alloc _).alloc _)
  clear h0 h1
  go_enter Tryd.func7, Tryd.ntmps7
  go_wp2_with (fail)
  obtain ⟨w1, hw1⟩ : ∃ W : World, (w.alloc (.cells #[.slice A us.length c, .string r] 39)).alloc (.cells #[.slice B vs.length d, .string s] 39) = W := ⟨_, rfl⟩
  rw [hw1] at HX0 HY0 HO0 ⊢
  clear hw1
  have HX := HX0
  have HY := HY0
  have HO := HO0
  have K1 := Lib.hid (fun W (o : Only [] w1 W) => C1.out W (HO.out.trans o (by simp)))
  have K2 := Lib.hid (fun W (o : Only [] w1 W) => C2.out W (HO.out.trans o (by simp)))
  have K3 := Lib.hid (fun W (o : Only [] w1 W) => C3.out W (HO.out.trans o (by simp)))
  have K4 := Lib.hid (fun W (o : Only [] w1 W) => C4.out W (HO.out.trans o (by simp)))
  have K5 := Lib.hid (fun W (o : Only [] w1 W) => C5.out W (HO.out.trans o (by simp)))
  have K6 := Lib.hid (fun W (o : Only [] w1 W) => C6.out W (HO.out.trans o (by simp)))
  clear C1 C2 C3 C4 C5 C6 HX0 HY0 HO0
  refine (wpIn_wide (n := 9)).1 ?_
  refine wpIn_region_relG 25 (Only []) (fun _ _ => True) (fun g i v _ => FSm (.agg #[.slice A us.length c, .string r]) (.agg #[.slice B vs.length d, .string s]) sp g i v) (none, none) (fr := ?frs) (tl := ?tls) (.inl rfl) (by kernel_rfl) (by kernel_rfl) (by kernel_rfl) (by kernel_rfl) (by kernel_rfl) (by kernel_rfl) (by decide) ?htls ?hfrs (Only.refl _ _) (fun _ _ _ h k => h.trans k (fun _ hx => .inl hx)) trivial ?stepss ?dones
  case htls => simp only [List.drop_succ_cons, List.drop_zero]; rfl
  case hfrs => intro vals; simp only [putAll, dstAt, Act.put, List.getElem?_toArray, List.getElem?_cons_zero, List.getElem?_cons_succ, Option.bind_some, List.setIfInBounds_toArray, List.set_cons_zero, List.set_cons_succ]; rfl
  case stepss =>
    refine ⟨?_, ?_, ?_, ?_, ?_, ?_, ?_, ?_, ?_, ?_, ?_, ?_, ?_, ?_, ?_, ?_, ?_, ?_, ?_, ?_, ?_, ?_, ?_, ?_, ?_, trivial⟩
    · intro g vals wr hR hV hp K hK
      dsimp only at hK ⊢
      clear hp
      unfold RunsOp
      obtain ⟨k0, k1, kl⟩ := (hR.blk (Blk.drew HX.out) (by simp)).facts2
      go_simp
      exact hK.out _ _ ⟨_, g, rfl, Only.refl _ _, trivial, rfl, fun _ _ _ _ h => h⟩
    · intro g vals wr hR hV hp K hK
      dsimp only at hK ⊢
      obtain ⟨p0, -⟩ := hp
      replace p0 := p0 rfl
      replace p0 : vals 0 = .agg #[.slice A us.length c, .string r] := p0
      rw [p0] at hK ⊢
      clear p0
      unfold RunsOp
      go_simp
      refine (K1.out _ ((Only.refl [] _).drew.trans hR (by simp))).mono ?_
      rintro e' w2 ⟨rfl | ⟨rfl, -⟩, o2⟩
      all_goals exact hK.out _ _ ⟨_, g, rfl, o2, trivial, ⟨_, rfl⟩, fun _ _ _ _ h => h⟩
    · intro g vals wr hR hV hp K hK
      dsimp only at hK ⊢
      obtain ⟨p1, -⟩ := hp
      replace p1 := p1 rfl
      obtain ⟨z1, p1⟩ := p1
      rw [p1] at hK ⊢
      clear p1
      unfold RunsOp
      go_simp
      exact hK.out _ _ ⟨_, g, rfl, Only.refl _ _, trivial, ⟨_, rfl⟩, fun _ _ _ _ h => h⟩
    · intro g vals wr hR hV hp K hK
      dsimp only at hK ⊢
      obtain ⟨p2, -, -⟩ := hp
      replace p2 := p2 rfl
      obtain ⟨z2, p2⟩ := p2
      rw [p2] at hK ⊢
      clear p2
      unfold RunsOp
      go_simp
      exact hK.out _ _ ⟨_, (some z2, g.2), rfl, Only.refl _ _, trivial, ⟨_, rfl, rfl⟩, fun j u hj hn h => FSm.set1 (R := fun j => reaches _ _ j 3) (by kernel_rfl) hj hn h⟩
    · intro g vals wr hR hV hp K hK
      dsimp only at hK ⊢
      obtain ⟨p3, -⟩ := hp
      replace p3 := p3 rfl
      obtain ⟨b, hg, p3⟩ := p3
      cases b
      · rw [p3] at hK ⊢
        clear p3
        unfold RunsOp
        obtain ⟨k0, k1, kl⟩ := (hR.blk (Blk.drew HY.out) (by simp)).facts2
        go_simp
        exact hK.out _ _ ⟨_, g, rfl, Only.refl _ _, trivial, .inl ⟨hg, rfl⟩, fun _ _ _ _ h => h⟩
      · rw [p3] at hK ⊢
        clear p3
        unfold RunsOp
        go_simp
        exact hK.out _ _ ⟨_, g, rfl, Only.refl _ _, trivial, .inr ⟨hg, rfl⟩, fun _ _ _ _ h => h⟩
    · intro g vals wr hR hV hp K hK
      dsimp only at hK ⊢
      obtain ⟨p4, p3, -, -⟩ := hp
      replace p4 := p4 rfl
      replace p3 := p3 rfl
      obtain ⟨b, hg, p3⟩ := p3
      cases b
      · replace p4 : D1 g (fun u => u = .agg #[.slice B vs.length d, .string s]) (vals 4) := p4
        replace p4 := D1.yes hg p4
        rw [p3, p4] at hK ⊢
        clear p3 p4
        unfold RunsOp
        go_simp
        refine (K2.out _ ((Only.refl [] _).drew.trans hR (by simp))).mono ?_
        rintro e' w2 ⟨rfl | ⟨rfl, -⟩, o2⟩
        all_goals exact hK.out _ _ ⟨_, g, rfl, o2, trivial, .inl ⟨hg, ⟨_, rfl⟩⟩, fun _ _ _ _ h => h⟩
      · replace p4 : D1 g (fun u => u = .agg #[.slice B vs.length d, .string s]) (vals 4) := p4
        replace p4 := D1.no hg p4
        rw [p3, p4] at hK ⊢
        clear p3 p4
        unfold RunsOp
        go_simp
        exact hK.out _ _ ⟨_, g, rfl, Only.refl _ _, trivial, .inr ⟨hg, rfl⟩, fun _ _ _ _ h => h⟩
    · intro g vals wr hR hV hp K hK
      dsimp only at hK ⊢
      obtain ⟨p5, p3, -⟩ := hp
      replace p5 := p5 rfl
      replace p3 := p3 rfl
      obtain ⟨b, hg, p3⟩ := p3
      cases b
      · replace p5 : D1 g (fun u => ∃ z : Int, u = .int .i64 z) (vals 5) := p5
        replace p5 := D1.yes hg p5
        obtain ⟨z5, p5⟩ := p5
        rw [p3, p5] at hK ⊢
        clear p3 p5
        unfold RunsOp
        go_simp
        exact hK.out _ _ ⟨_, g, rfl, Only.refl _ _, trivial, .inl ⟨hg, ⟨_, rfl⟩⟩, fun _ _ _ _ h => h⟩
      · replace p5 : D1 g (fun u => ∃ z : Int, u = .int .i64 z) (vals 5) := p5
        replace p5 := D1.no hg p5
        rw [p3, p5] at hK ⊢
        clear p3 p5
        unfold RunsOp
        go_simp
        exact hK.out _ _ ⟨_, g, rfl, Only.refl _ _, trivial, .inr ⟨hg, rfl⟩, fun _ _ _ _ h => h⟩
    · intro g vals wr hR hV hp K hK
      dsimp only at hK ⊢
      obtain ⟨p3, p6, -⟩ := hp
      replace p3 := p3 rfl
      replace p6 := p6 rfl
      obtain ⟨b, hg, p3⟩ := p3
      cases b
      · replace p6 : D1 g (fun u => ∃ b : Bool, u = .bool b) (vals 6) := p6
        replace p6 := D1.yes hg p6
        obtain ⟨z6, p6⟩ := p6
        rw [p3, p6] at hK ⊢
        clear p3 p6
        unfold RunsOp
        go_simp
        exact hK.out _ _ ⟨_, g, rfl, Only.refl _ _, trivial, ⟨_, rfl⟩, fun _ _ _ _ h => h⟩
      · replace p6 : D1 g (fun u => ∃ b : Bool, u = .bool b) (vals 6) := p6
        replace p6 := D1.no hg p6
        rw [p3, p6] at hK ⊢
        clear p3 p6
        unfold RunsOp
        go_simp
        exact hK.out _ _ ⟨_, g, rfl, Only.refl _ _, trivial, ⟨_, rfl⟩, fun _ _ _ _ h => h⟩
    · intro g vals wr hR hV hp K hK
      dsimp only at hK ⊢
      obtain ⟨p7, -, -⟩ := hp
      replace p7 := p7 rfl
      obtain ⟨z7, p7⟩ := p7
      rw [p7] at hK ⊢
      clear p7
      unfold RunsOp
      go_simp
      exact hK.out _ _ ⟨_, (g.1, some z7), rfl, Only.refl _ _, trivial, ⟨_, rfl, rfl⟩, fun j u hj hn h => FSm.set2 (R := fun j => reaches _ _ j 8) (by kernel_rfl) hj hn h⟩
    · intro g vals wr hR hV hp K hK
      dsimp only at hK ⊢
      obtain ⟨p8, -, -⟩ := hp
      replace p8 := p8 rfl
      obtain ⟨b, hg, p8⟩ := p8
      cases b
      · rw [p8] at hK ⊢
        clear p8
        unfold RunsOp
        go_simp
        refine (K3.out _ ((Only.refl [] _).drew.trans hR (by simp))).mono ?_
        rintro e' w2 ⟨rfl, o2⟩
        all_goals exact hK.out _ _ ⟨_, g, rfl, o2, trivial, .inl ⟨hg, rfl⟩, fun _ _ _ _ h => h⟩
      · rw [p8] at hK ⊢
        clear p8
        unfold RunsOp
        go_simp
        exact hK.out _ _ ⟨_, g, rfl, Only.refl _ _, trivial, .inr ⟨hg, rfl⟩, fun _ _ _ _ h => h⟩
    · intro g vals wr hR hV hp K hK
      dsimp only at hK ⊢
      obtain ⟨p9, -, p8, -⟩ := hp
      replace p9 := p9 rfl
      replace p8 := p8 rfl
      obtain ⟨b, hg, p8⟩ := p8
      cases b
      · replace p9 : D2 g (.bool true) (vals 9) := p9
        replace p9 := D2.yes hg p9
        rw [p8, p9] at hK ⊢
        clear p8 p9
        unfold RunsOp
        go_simp
        exact hK.out _ _ ⟨_, g, rfl, Only.refl _ _, trivial, .inl ⟨hg, rfl⟩, fun _ _ _ _ h => h⟩
      · replace p9 : D2 g (.bool true) (vals 9) := p9
        replace p9 := D2.no hg p9
        rw [p8, p9] at hK ⊢
        clear p8 p9
        unfold RunsOp
        go_simp
        exact hK.out _ _ ⟨_, g, rfl, Only.refl _ _, trivial, .inr ⟨hg, rfl⟩, fun _ _ _ _ h => h⟩
    · intro g vals wr hR hV hp K hK
      dsimp only at hK ⊢
      obtain ⟨p10, -⟩ := hp
      replace p10 := p10 rfl
      replace p10 : D2 g (.bool true) (vals 10) := p10
      rcases p10 with ⟨hg, p10⟩ | ⟨hg, p10⟩
      · rw [p10] at hK ⊢
        clear p10
        unfold RunsOp
        obtain ⟨k0, k1, kl⟩ := (hR.blk (Blk.drew HX.out) (by simp)).facts2
        go_simp
        exact hK.out _ _ ⟨_, g, rfl, Only.refl _ _, trivial, .inl ⟨hg, rfl⟩, fun _ _ _ _ h => h⟩
      · rw [p10] at hK ⊢
        clear p10
        unfold RunsOp
        go_simp
        exact hK.out _ _ ⟨_, g, rfl, Only.refl _ _, trivial, .inr ⟨hg, rfl⟩, fun _ _ _ _ h => h⟩
    · intro g vals wr hR hV hp K hK
      dsimp only at hK ⊢
      obtain ⟨p10, -⟩ := hp
      replace p10 := p10 rfl
      replace p10 : D2 g (.bool true) (vals 10) := p10
      rcases p10 with ⟨hg, p10⟩ | ⟨hg, p10⟩
      · rw [p10] at hK ⊢
        clear p10
        unfold RunsOp
        obtain ⟨k0, k1, kl⟩ := (hR.blk (Blk.drew HY.out) (by simp)).facts2
        go_simp
        exact hK.out _ _ ⟨_, g, rfl, Only.refl _ _, trivial, .inl ⟨hg, rfl⟩, fun _ _ _ _ h => h⟩
      · rw [p10] at hK ⊢
        clear p10
        unfold RunsOp
        go_simp
        exact hK.out _ _ ⟨_, g, rfl, Only.refl _ _, trivial, .inr ⟨hg, rfl⟩, fun _ _ _ _ h => h⟩
    · intro g vals wr hR hV hp K hK
      dsimp only at hK ⊢
      obtain ⟨p11, p12, p10, -, -⟩ := hp
      replace p11 := p11 rfl
      replace p12 := p12 rfl
      replace p10 := p10 rfl
      replace p11 : D2 g (.agg #[.slice A us.length c, .string r]) (vals 11) := p11
      rcases p11 with ⟨hg, p11⟩ | ⟨hg, p11⟩
      · replace p12 : D2 g (.agg #[.slice B vs.length d, .string s]) (vals 12) := p12
        replace p12 := D2.yes hg p12
        replace p10 : D2 g (.bool true) (vals 10) := p10
        replace p10 := D2.yes hg p10
        rw [p11, p12, p10] at hK ⊢
        clear p11 p12 p10
        unfold RunsOp
        go_simp
        refine (K4.out _ ((Only.refl [] _).drew.trans hR (by simp))).mono ?_
        rintro e' w2 ⟨rfl, o2⟩
        all_goals exact hK.out _ _ ⟨_, g, rfl, o2, trivial, .inl ⟨hg, rfl⟩, fun _ _ _ _ h => h⟩
      · replace p12 : D2 g (.agg #[.slice B vs.length d, .string s]) (vals 12) := p12
        replace p12 := D2.no hg p12
        replace p10 : D2 g (.bool true) (vals 10) := p10
        replace p10 := D2.no hg p10
        rw [p11, p12, p10] at hK ⊢
        clear p11 p12 p10
        unfold RunsOp
        go_simp
        exact hK.out _ _ ⟨_, g, rfl, Only.refl _ _, trivial, .inr ⟨hg, rfl⟩, fun _ _ _ _ h => h⟩
    · intro g vals wr hR hV hp K hK
      dsimp only at hK ⊢
      obtain ⟨p10, -⟩ := hp
      replace p10 := p10 rfl
      replace p10 : D2 g (.bool true) (vals 10) := p10
      rcases p10 with ⟨hg, p10⟩ | ⟨hg, p10⟩
      · rw [p10] at hK ⊢
        clear p10
        unfold RunsOp
        obtain ⟨k0, k1, kl⟩ := (hR.blk (Blk.drew HX.out) (by simp)).facts2
        go_simp
        exact hK.out _ _ ⟨_, g, rfl, Only.refl _ _, trivial, .inl ⟨hg, rfl⟩, fun _ _ _ _ h => h⟩
      · rw [p10] at hK ⊢
        clear p10
        unfold RunsOp
        go_simp
        exact hK.out _ _ ⟨_, g, rfl, Only.refl _ _, trivial, .inr ⟨hg, rfl⟩, fun _ _ _ _ h => h⟩
    · intro g vals wr hR hV hp K hK
      dsimp only at hK ⊢
      obtain ⟨p10, -⟩ := hp
      replace p10 := p10 rfl
      replace p10 : D2 g (.bool true) (vals 10) := p10
      rcases p10 with ⟨hg, p10⟩ | ⟨hg, p10⟩
      · rw [p10] at hK ⊢
        clear p10
        unfold RunsOp
        obtain ⟨k0, k1, kl⟩ := (hR.blk (Blk.drew HY.out) (by simp)).facts2
        go_simp
        exact hK.out _ _ ⟨_, g, rfl, Only.refl _ _, trivial, .inl ⟨hg, rfl⟩, fun _ _ _ _ h => h⟩
      · rw [p10] at hK ⊢
        clear p10
        unfold RunsOp
        go_simp
        exact hK.out _ _ ⟨_, g, rfl, Only.refl _ _, trivial, .inr ⟨hg, rfl⟩, fun _ _ _ _ h => h⟩
    · intro g vals wr hR hV hp K hK
      dsimp only at hK ⊢
      obtain ⟨p14, p15, -, p10, -⟩ := hp
      replace p14 := p14 rfl
      replace p15 := p15 rfl
      replace p10 := p10 rfl
      replace p14 : D2 g (.agg #[.slice A us.length c, .string r]) (vals 14) := p14
      rcases p14 with ⟨hg, p14⟩ | ⟨hg, p14⟩
      · replace p15 : D2 g (.agg #[.slice B vs.length d, .string s]) (vals 15) := p15
        replace p15 := D2.yes hg p15
        replace p10 : D2 g (.bool true) (vals 10) := p10
        replace p10 := D2.yes hg p10
        rw [p14, p15, p10] at hK ⊢
        clear p14 p15 p10
        unfold RunsOp
        go_simp
        refine (K5.out _ ((Only.refl [] _).drew.trans hR (by simp))).mono ?_
        rintro e' w2 ⟨rfl, o2⟩
        all_goals exact hK.out _ _ ⟨_, g, rfl, o2, trivial, .inl ⟨hg, rfl⟩, fun _ _ _ _ h => h⟩
      · replace p15 : D2 g (.agg #[.slice B vs.length d, .string s]) (vals 15) := p15
        replace p15 := D2.no hg p15
        replace p10 : D2 g (.bool true) (vals 10) := p10
        replace p10 := D2.no hg p10
        rw [p14, p15, p10] at hK ⊢
        clear p14 p15 p10
        unfold RunsOp
        go_simp
        exact hK.out _ _ ⟨_, g, rfl, Only.refl _ _, trivial, .inr ⟨hg, rfl⟩, fun _ _ _ _ h => h⟩
    · intro g vals wr hR hV hp K hK
      dsimp only at hK ⊢
      obtain ⟨p13, p16, p10, -⟩ := hp
      replace p13 := p13 rfl
      replace p16 := p16 rfl
      replace p10 := p10 rfl
      replace p13 : D2 g (.bool sp) (vals 13) := p13
      rcases p13 with ⟨hg, p13⟩ | ⟨hg, p13⟩
      · replace p16 : D2 g (.bool sp) (vals 16) := p16
        replace p16 := D2.yes hg p16
        replace p10 : D2 g (.bool true) (vals 10) := p10
        replace p10 := D2.yes hg p10
        rw [p13, p16, p10] at hK ⊢
        clear p13 p16 p10
        unfold RunsOp
        have eqq := ESP.out
        go_simp
        exact hK.out _ _ ⟨_, g, rfl, Only.refl _ _, trivial, .inl ⟨hg, rfl⟩, fun _ _ _ _ h => h⟩
      · replace p16 : D2 g (.bool sp) (vals 16) := p16
        replace p16 := D2.no hg p16
        replace p10 : D2 g (.bool true) (vals 10) := p10
        replace p10 := D2.no hg p10
        rw [p13, p16, p10] at hK ⊢
        clear p13 p16 p10
        unfold RunsOp
        go_simp
        exact hK.out _ _ ⟨_, g, rfl, Only.refl _ _, trivial, .inr ⟨hg, rfl⟩, fun _ _ _ _ h => h⟩
    · intro g vals wr hR hV hp K hK
      dsimp only at hK ⊢
      obtain ⟨p10, p17, p8, -⟩ := hp
      replace p10 := p10 rfl
      replace p17 := p17 rfl
      replace p8 := p8 rfl
      obtain ⟨b, hg, p8⟩ := p8
      cases b
      · replace p10 : D2 g (.bool true) (vals 10) := p10
        replace p10 := D2.yes hg p10
        replace p17 : D2 g (.bool true) (vals 17) := p17
        replace p17 := D2.yes hg p17
        rw [p8, p10, p17] at hK ⊢
        clear p8 p10 p17
        unfold RunsOp
        go_simp
        exact hK.out _ _ ⟨_, g, rfl, Only.refl _ _, trivial, .inl ⟨hg, rfl⟩, fun _ _ _ _ h => h⟩
      · replace p10 : D2 g (.bool true) (vals 10) := p10
        replace p10 := D2.no hg p10
        replace p17 : D2 g (.bool true) (vals 17) := p17
        replace p17 := D2.no hg p17
        rw [p8, p10, p17] at hK ⊢
        clear p8 p10 p17
        unfold RunsOp
        go_simp
        exact hK.out _ _ ⟨_, g, rfl, Only.refl _ _, trivial, .inr ⟨hg, rfl⟩, fun _ _ _ _ h => h⟩
    · intro g vals wr hR hV hp K hK
      dsimp only at hK ⊢
      obtain ⟨p18, -, p8, -⟩ := hp
      replace p18 := p18 rfl
      replace p8 := p8 rfl
      obtain ⟨b, hg, p8⟩ := p8
      cases b
      · replace p18 : D2 g (.bool true) (vals 18) := p18
        replace p18 := D2.yes hg p18
        rw [p8, p18] at hK ⊢
        clear p8 p18
        unfold RunsOp
        go_simp
        exact hK.out _ _ ⟨_, g, rfl, Only.refl _ _, trivial, .inl ⟨hg, rfl⟩, fun _ _ _ _ h => h⟩
      · replace p18 : D2 g (.bool true) (vals 18) := p18
        replace p18 := D2.no hg p18
        rw [p8, p18] at hK ⊢
        clear p8 p18
        unfold RunsOp
        go_simp
        exact hK.out _ _ ⟨_, g, rfl, Only.refl _ _, trivial, .inr ⟨hg, rfl⟩, fun _ _ _ _ h => h⟩
    · intro g vals wr hR hV hp K hK
      dsimp only at hK ⊢
      obtain ⟨p19, -⟩ := hp
      replace p19 := p19 rfl
      replace p19 : D2 g (.bool true) (vals 19) := p19
      rcases p19 with ⟨hg, p19⟩ | ⟨hg, p19⟩
      · rw [p19] at hK ⊢
        clear p19
        unfold RunsOp
        obtain ⟨k0, k1, kl⟩ := (hR.blk (Blk.drew HX.out) (by simp)).facts2
        go_simp
        exact hK.out _ _ ⟨_, g, rfl, Only.refl _ _, trivial, .inl ⟨hg, rfl⟩, fun _ _ _ _ h => h⟩
      · rw [p19] at hK ⊢
        clear p19
        unfold RunsOp
        go_simp
        exact hK.out _ _ ⟨_, g, rfl, Only.refl _ _, trivial, .inr ⟨hg, rfl⟩, fun _ _ _ _ h => h⟩
    · intro g vals wr hR hV hp K hK
      dsimp only at hK ⊢
      obtain ⟨p19, -⟩ := hp
      replace p19 := p19 rfl
      replace p19 : D2 g (.bool true) (vals 19) := p19
      rcases p19 with ⟨hg, p19⟩ | ⟨hg, p19⟩
      · rw [p19] at hK ⊢
        clear p19
        unfold RunsOp
        obtain ⟨k0, k1, kl⟩ := (hR.blk (Blk.drew HX.out) (by simp)).facts2
        go_simp
        exact hK.out _ _ ⟨_, g, rfl, Only.refl _ _, trivial, .inl ⟨hg, rfl⟩, fun _ _ _ _ h => h⟩
      · rw [p19] at hK ⊢
        clear p19
        unfold RunsOp
        go_simp
        exact hK.out _ _ ⟨_, g, rfl, Only.refl _ _, trivial, .inr ⟨hg, rfl⟩, fun _ _ _ _ h => h⟩
    · intro g vals wr hR hV hp K hK
      dsimp only at hK ⊢
      obtain ⟨p20, p21, p19, -, -⟩ := hp
      replace p20 := p20 rfl
      replace p21 := p21 rfl
      replace p19 := p19 rfl
      replace p20 : D2 g (.agg #[.slice A us.length c, .string r]) (vals 20) := p20
      rcases p20 with ⟨hg, p20⟩ | ⟨hg, p20⟩
      · replace p21 : D2 g (.agg #[.slice A us.length c, .string r]) (vals 21) := p21
        replace p21 := D2.yes hg p21
        replace p19 : D2 g (.bool true) (vals 19) := p19
        replace p19 := D2.yes hg p19
        rw [p20, p21, p19] at hK ⊢
        clear p20 p21 p19
        unfold RunsOp
        go_simp
        refine (K6.out _ ((Only.refl [] _).drew.trans hR (by simp))).mono ?_
        rintro e' w2 ⟨rfl, o2⟩
        all_goals exact hK.out _ _ ⟨_, g, rfl, o2, trivial, .inl ⟨hg, rfl⟩, fun _ _ _ _ h => h⟩
      · replace p21 : D2 g (.agg #[.slice A us.length c, .string r]) (vals 21) := p21
        replace p21 := D2.no hg p21
        replace p19 : D2 g (.bool true) (vals 19) := p19
        replace p19 := D2.no hg p19
        rw [p20, p21, p19] at hK ⊢
        clear p20 p21 p19
        unfold RunsOp
        go_simp
        exact hK.out _ _ ⟨_, g, rfl, Only.refl _ _, trivial, .inr ⟨hg, rfl⟩, fun _ _ _ _ h => h⟩
    · intro g vals wr hR hV hp K hK
      dsimp only at hK ⊢
      obtain ⟨p19, p22, p8, -⟩ := hp
      replace p19 := p19 rfl
      replace p22 := p22 rfl
      replace p8 := p8 rfl
      obtain ⟨b, hg, p8⟩ := p8
      cases b
      · replace p19 : D2 g (.bool true) (vals 19) := p19
        replace p19 := D2.yes hg p19
        replace p22 : D2 g (.bool true) (vals 22) := p22
        replace p22 := D2.yes hg p22
        rw [p8, p19, p22] at hK ⊢
        clear p8 p19 p22
        unfold RunsOp
        go_simp
        exact hK.out _ _ ⟨_, g, rfl, Only.refl _ _, trivial, .inl ⟨hg, rfl⟩, fun _ _ _ _ h => h⟩
      · replace p19 : D2 g (.bool true) (vals 19) := p19
        replace p19 := D2.no hg p19
        replace p22 : D2 g (.bool true) (vals 22) := p22
        replace p22 := D2.no hg p22
        rw [p8, p19, p22] at hK ⊢
        clear p8 p19 p22
        unfold RunsOp
        go_simp
        exact hK.out _ _ ⟨_, g, rfl, Only.refl _ _, trivial, .inr ⟨hg, rfl⟩, fun _ _ _ _ h => h⟩
    · intro g vals wr hR hV hp K hK
      dsimp only at hK ⊢
      obtain ⟨p8, p23, -⟩ := hp
      replace p8 := p8 rfl
      replace p23 := p23 rfl
      obtain ⟨b, hg, p8⟩ := p8
      cases b
      · replace p23 : D2 g (.bool true) (vals 23) := p23
        replace p23 := D2.yes hg p23
        rw [p8, p23] at hK ⊢
        clear p8 p23
        unfold RunsOp
        go_simp
        exact hK.out _ _ ⟨_, g, rfl, Only.refl _ _, trivial, rfl, fun _ _ _ _ h => h⟩
      · replace p23 : D2 g (.bool true) (vals 23) := p23
        replace p23 := D2.no hg p23
        rw [p8, p23] at hK ⊢
        clear p8 p23
        unfold RunsOp
        go_simp
        exact hK.out _ _ ⟨_, g, rfl, Only.refl _ _, trivial, rfl, fun _ _ _ _ h => h⟩
  case dones =>
    intro g vals wd hR hV hF
    have f24 : vals 24 = .bool true := hF 24 (by decide)
    have f0 : vals 0 = .agg #[.slice A us.length c, .string r] := hF 0 (by decide)
    rw [f24, f0]
    clear f24 f0 hF
    have HO5 := Lib.hid (HO.out.trans ((Only.refl [] _).drew.trans hR (by simp)) (by simp))
    clear hR
    gi_wp2_with (fail)
    go_wp2_with (fail)
    go_ret
    exact ⟨rfl, HO5.out⟩
end Go.Proofs.YtfnacnlaphpflaaDoor
