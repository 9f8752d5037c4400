/- kinds, tuple, item. -/
import Derived.Test.YtjhpckeoackblaaDoorVar
namespace Go.Proofs.YtjhpckeoackblaaDoor
open Go.RowKit Go.Kx
open Go.Val (Tt)
set_option maxRecDepth 100000
/-- what is answered, all that is new from B on -/
def RG (B0 B : Nat) (w : World) (p : Tt × Int) (r : Ending) (w' : World) : Prop :=
  ∃ yk yA ycap yl, r = .returned (.tuple #[.agg #[.int .i64 yk, .slice yA (List.length yl) ycap], .int .i64 p.2]) ∧ TK B0 B w' p.1 (.mk yk yA ycap yl) ∧ Only [] w w'
/-- types that are given -/
structure AR (B0 B : Nat) (w : World) (A : Option Addr) (es : List Tx) : Prop where
  row : RowLT w A es
  at_ : ∀ p, A = some p → B ≤ p.block
  off : ∀ e ∈ es, ∀ b ∈ e.bks, b < B0 ∨ B ≤ b
theorem AR.keep {B0 B : Nat} {w w' : World} {A : Option Addr} {es : List Tx} (h : AR B0 B w A es) (o : Only [] w w') : AR B0 B w' A es := ⟨h.row.keep o, h.at_, h.off⟩
theorem AR.el {B0 B : Nat} {w : World} {A : Option Addr} {es : List Tx} (h : AR B0 B w A es) {e : Tx} (he : e ∈ es) : TK B0 B w e.tr e := ⟨rfl, h.row.sub e he, h.off e he⟩
def kindsL (es : List Tx) : List Int := es.map fun e => e.tr.k
theorem kindsB_of (es : List Tx) (want : List Int) : kindsB (es.map Tx.tr) want = decide (kindsL es = want) := by
  unfold kindsB kindsL
  rw [List.map_map]
  rfl
theorem kinds_no {α : Type} {l m : List α} {k : Nat} {a b : α} (h1 : l[k]? = some a) (h2 : m[k]? = some b) (h : a ≠ b) : l ≠ m := fun e => by
  rw [e, h2] at h1
  injection h1 with h1
  exact h h1.symm
theorem take_step {α : Type} {l m : List α} {k : Nat} {a : α} (h : l.take k = m.take k) (h1 : l[k]? = some a) (h2 : m[k]? = some a) : l.take (k + 1) = m.take (k + 1) := by
  rw [List.take_add_one, List.take_add_one, h, h1, h2]
set_option maxHeartbeats 4000000 in
theorem kinds_any {A : Option Addr} {cap : Nat} {es : List Tx} {z : Nat} {want : List Int} {w : World} (hR : RowLT w A es) (hz : Blk w z 3 (want.map fun x => Value.int .i64 x).toArray) (hm : want.length ≤ 1000) :
    Calls Tryd.prog 49 #[.slice A es.length cap, .slice (some ⟨z, 0, none⟩) want.length want.length] w fun r w' => r = .returned (.bool (decide (kindsL es = want))) ∧ Only [] w w' := by
  have hkl : (kindsL es).length = es.length := by simp [kindsL]
  by_cases hlen : es.length = want.length
  · have HR := Lib.hid hR
    have HZ := Lib.hid hz
    obtain ⟨n, hn⟩ : ∃ n, want.length = n := ⟨_, rfl⟩
    have HN := Lib.hid hn
    have HE := Lib.hid (hlen.trans hn)
    have HKL := Lib.hid hkl
    rw [hlen, hn]
    rw [hn] at hm
    clear hR hz hlen hn hkl
    go_enter Tryd.func49, Tryd.ntmps49
    go_wp2_with (fail)
    go_loopw [14] (fun i wr => ∃ k : Nat, i = .int .i64 k ∧ k ≤ n ∧ Hid ((kindsL es).take k = want.take k) ∧ Hid (Only [] w wr)) (fun i _ => n - (intOf i).toNat)
    case atStart => exact ⟨0, rfl, Nat.zero_le _, Lib.hid (by simp), Lib.hid (Only.refl _ _)⟩
    case round =>
      obtain ⟨k, rfl, hk, HP, HOr⟩ := hrel
      by_cases hlt : k < n
      · obtain ⟨e, he⟩ : ∃ e, es[k]? = some e := ⟨_, List.getElem?_eq_getElem (by rw [HE.out]; exact hlt)⟩
        obtain ⟨y, hy⟩ : ∃ y, want[k]? = some y := ⟨_, List.getElem?_eq_getElem (by rw [HN.out]; exact hlt)⟩
        have hkk : (kindsL es)[k]? = some e.tr.k := by unfold kindsL; rw [List.getElem?_map, he]; rfl
        have hrow := (HR.out.row k _ he).only HOr.out (by simp)
        have HW := Lib.hid (show wr.cell? ⟨z, k, none⟩ = some (.int .i64 y) ∧ z < wr.heap.size from ⟨by rw [(HOr.out.blk HZ.out (by simp)).cell]; simp [hy], (HOr.out.blk HZ.out (by simp)).lt⟩)
        obtain ⟨xk, xA, xcap, xl⟩ := e
        have hxk : (Tx.mk xk xA xcap xl).tr.k = xk := by rw [Tx.tr_mk]; rfl
        rw [hxk] at hkk
        have HNE := Lib.hid (fun (h : xk ≠ y) => kinds_no hkk hy h)
        have HEQ := Lib.hid (fun (h : xk = y) => take_step HP.out hkk (by rw [h]; exact hy))
        obtain ⟨bb, o, rfl, hbb, c0, c1⟩ := hrow.cells
        have ik0 : (0 : Int) ≤ (k : Int) := by omega
        have ik1 : (k : Int) < (n : Int) := by omega
        have HXB0 := Lib.hid (Blk.new wr 34 #[.int .i64 xk, .slice xA xl.length xcap])
        have oA : Only [] wr (wr.alloc (.cells #[.int .i64 xk, .slice xA xl.length xcap] 34)) := (Only.refl _ _).alloc _
        clear he hy hkk hxk hrow
        go_wp2_with (fail)
        obtain ⟨wq, hwq⟩ : ∃ wq : World, wq = wr.alloc (.cells #[.int .i64 xk, .slice xA xl.length xcap] 34) := ⟨_, rfl⟩
        obtain ⟨xb, hxb⟩ : ∃ xb, wr.heap.size = xb := ⟨_, rfl⟩
        have HXB := Lib.hid (show Blk wq xb 34 #[.int .i64 xk, .slice xA xl.length xcap] by rw [hwq, ← hxb]; exact HXB0.out)
        have HOQ := Lib.hid (show Only [] wr wq by rw [hwq]; exact oA)
        rw [← hwq, hxb]
        clear c0 c1 oA hwq hxb hbb HXB0
        by_cases hq : xk = y
        · have d1 : (xk != y) = false := by rw [hq]; simp
          have HQ := Lib.hid hq
          clear hq
          refine (wpIn_wide (n := 9)).1 ?_
          refine wpIn_region_relR 7 (Only []) (fr := ?frga) (tl := ?tlga) (fun iq v wv => match iq with
            | 0 => v = .pointer (some ⟨xb, 0, none⟩)
            | 1 => v = .int .i64 xk
            | 2 => v = .slice (some ⟨z, 0, none⟩) n n
            | 3 => v = .int .i64 (k : Nat)
            | 4 => v = .pointer (some ⟨z, k, none⟩)
            | 5 => v = .int .i64 y
            | 6 => v = .bool false
            | _ => True) (.inl rfl) (by kernel_rfl) (by kernel_rfl) (by kernel_rfl) (by kernel_rfl) (by kernel_rfl) (by kernel_rfl) (by decide) ?htlga ?hfrga (Only.refl _ _) (fun _ _ _ h k => h.trans k (fun _ hx => .inl hx)) ?stabga ?stepsga ?donega
          case htlga => simp only [List.drop_succ_cons, List.drop_zero]; rfl
          case hfrga => intro vals; simp only [putAll, dstAt, Act.put, List.getElem?_toArray, List.getElem?_cons_zero, List.getElem?_cons_succ, Option.bind_some, List.setIfInBounds_toArray, List.set_cons_zero, List.set_cons_succ]; rfl
          case stabga =>
            intro i v wa wb h
            try dsimp only
            split <;> first | exact id
          case stepsga =>
            refine ⟨?_, ?_, ?_, ?_, ?_, ?_, ?_, trivial⟩
            · intro vals wr hR hp K hK
              dsimp only at hK ⊢
              clear hp
              unfold RunsOp
              go_simp
              exact hK.out _ _ ⟨_, rfl, Only.refl _ _, rfl⟩
            · intro vals wr hR hp K hK
              dsimp only at hK ⊢
              obtain ⟨p0, -⟩ := hp
              replace p0 := p0 rfl
              dsimp only at p0
              rw [p0] at hK ⊢
              clear p0
              unfold RunsOp
              obtain ⟨k0, k1, kl⟩ := (hR.blk (Blk.drew HXB.out) (by simp)).facts2
              go_simp
              exact hK.out _ _ ⟨_, rfl, Only.refl _ _, rfl⟩
            · intro vals wr hR hp K hK
              dsimp only at hK ⊢
              clear hp
              unfold RunsOp
              go_simp
              exact hK.out _ _ ⟨_, rfl, Only.refl _ _, rfl⟩
            · intro vals wr hR hp K hK
              dsimp only at hK ⊢
              clear hp
              unfold RunsOp
              go_simp
              exact hK.out _ _ ⟨_, rfl, Only.refl _ _, rfl⟩
            · intro vals wr hR hp K hK
              dsimp only at hK ⊢
              obtain ⟨p2, p3, -⟩ := hp
              replace p2 := p2 rfl
              replace p3 := p3 rfl
              dsimp only at p2 p3
              rw [p2, p3] at hK ⊢
              clear p2 p3
              unfold RunsOp
              go_simp
              exact hK.out _ _ ⟨_, rfl, Only.refl _ _, rfl⟩
            · intro vals wr hR hp K hK
              dsimp only at hK ⊢
              obtain ⟨p4, -⟩ := hp
              replace p4 := p4 rfl
              dsimp only at p4
              rw [p4] at hK ⊢
              clear p4
              unfold RunsOp
              have k0 := ((hR.cell (p := ⟨z, k, none⟩) (Nat.lt_of_lt_of_le HW.out.2 HOQ.out.size) (by simp)).trans (HOQ.out.cell (p := ⟨z, k, none⟩) HW.out.2 (by simp))).trans HW.out.1
              go_simp
              exact hK.out _ _ ⟨_, rfl, Only.refl _ _, rfl⟩
            · intro vals wr hR hp K hK
              dsimp only at hK ⊢
              obtain ⟨p1, p5, -⟩ := hp
              replace p1 := p1 rfl
              replace p5 := p5 rfl
              dsimp only at p1 p5
              rw [p1, p5] at hK ⊢
              clear p1 p5
              unfold RunsOp
              go_simp
              exact hK.out _ _ ⟨_, rfl, Only.refl _ _, rfl⟩
          case donega =>
            intro vals wd hR hF
            have f0 : vals 0 = .pointer (some ⟨xb, 0, none⟩) := hF 0 (by decide)
            have f1 : vals 1 = .int .i64 xk := hF 1 (by decide)
            have f2 : vals 2 = .slice (some ⟨z, 0, none⟩) n n := hF 2 (by decide)
            have f3 : vals 3 = .int .i64 (k : Nat) := hF 3 (by decide)
            have f4 : vals 4 = .pointer (some ⟨z, k, none⟩) := hF 4 (by decide)
            have f5 : vals 5 = .int .i64 y := hF 5 (by decide)
            have f6 : vals 6 = .bool false := hF 6 (by decide)
            rw [f0, f1, f2, f3, f4, f5, f6]
            clear f0 f1 f2 f3 f4 f5 f6
            have HO9 := Lib.hid ((HOr.out.trans HOQ.out (by simp)).trans ((Only.refl [] wq).drew.trans hR (by simp)) (by simp))
            clear hR hF d1
            gi_wp2_with (fail)
            go_wp2_with (fail)
            go_roundw
            case rel => exact ⟨k + 1, by go_num, by omega, Lib.hid (HEQ.out HQ.out), HO9⟩
            case measure => simp [intOf]; omega
        · have d1 : (xk != y) = true := by simp [hq]
          have HQ := Lib.hid hq
          clear hq
          refine (wpIn_wide (n := 9)).1 ?_
          refine wpIn_region_relR 7 (Only []) (fr := ?frgb) (tl := ?tlgb) (fun iq v wv => match iq with
            | 0 => v = .pointer (some ⟨xb, 0, none⟩)
            | 1 => v = .int .i64 xk
            | 2 => v = .slice (some ⟨z, 0, none⟩) n n
            | 3 => v = .int .i64 (k : Nat)
            | 4 => v = .pointer (some ⟨z, k, none⟩)
            | 5 => v = .int .i64 y
            | 6 => v = .bool true
            | _ => True) (.inl rfl) (by kernel_rfl) (by kernel_rfl) (by kernel_rfl) (by kernel_rfl) (by kernel_rfl) (by kernel_rfl) (by decide) ?htlgb ?hfrgb (Only.refl _ _) (fun _ _ _ h k => h.trans k (fun _ hx => .inl hx)) ?stabgb ?stepsgb ?donegb
          case htlgb => simp only [List.drop_succ_cons, List.drop_zero]; rfl
          case hfrgb => intro vals; simp only [putAll, dstAt, Act.put, List.getElem?_toArray, List.getElem?_cons_zero, List.getElem?_cons_succ, Option.bind_some, List.setIfInBounds_toArray, List.set_cons_zero, List.set_cons_succ]; rfl
          case stabgb =>
            intro i v wa wb h
            try dsimp only
            split <;> first | exact id
          case stepsgb =>
            refine ⟨?_, ?_, ?_, ?_, ?_, ?_, ?_, trivial⟩
            · intro vals wr hR hp K hK
              dsimp only at hK ⊢
              clear hp
              unfold RunsOp
              go_simp
              exact hK.out _ _ ⟨_, rfl, Only.refl _ _, rfl⟩
            · intro vals wr hR hp K hK
              dsimp only at hK ⊢
              obtain ⟨p0, -⟩ := hp
              replace p0 := p0 rfl
              dsimp only at p0
              rw [p0] at hK ⊢
              clear p0
              unfold RunsOp
              obtain ⟨k0, k1, kl⟩ := (hR.blk (Blk.drew HXB.out) (by simp)).facts2
              go_simp
              exact hK.out _ _ ⟨_, rfl, Only.refl _ _, rfl⟩
            · intro vals wr hR hp K hK
              dsimp only at hK ⊢
              clear hp
              unfold RunsOp
              go_simp
              exact hK.out _ _ ⟨_, rfl, Only.refl _ _, rfl⟩
            · intro vals wr hR hp K hK
              dsimp only at hK ⊢
              clear hp
              unfold RunsOp
              go_simp
              exact hK.out _ _ ⟨_, rfl, Only.refl _ _, rfl⟩
            · intro vals wr hR hp K hK
              dsimp only at hK ⊢
              obtain ⟨p2, p3, -⟩ := hp
              replace p2 := p2 rfl
              replace p3 := p3 rfl
              dsimp only at p2 p3
              rw [p2, p3] at hK ⊢
              clear p2 p3
              unfold RunsOp
              go_simp
              exact hK.out _ _ ⟨_, rfl, Only.refl _ _, rfl⟩
            · intro vals wr hR hp K hK
              dsimp only at hK ⊢
              obtain ⟨p4, -⟩ := hp
              replace p4 := p4 rfl
              dsimp only at p4
              rw [p4] at hK ⊢
              clear p4
              unfold RunsOp
              have k0 := ((hR.cell (p := ⟨z, k, none⟩) (Nat.lt_of_lt_of_le HW.out.2 HOQ.out.size) (by simp)).trans (HOQ.out.cell (p := ⟨z, k, none⟩) HW.out.2 (by simp))).trans HW.out.1
              go_simp
              exact hK.out _ _ ⟨_, rfl, Only.refl _ _, rfl⟩
            · intro vals wr hR hp K hK
              dsimp only at hK ⊢
              obtain ⟨p1, p5, -⟩ := hp
              replace p1 := p1 rfl
              replace p5 := p5 rfl
              dsimp only at p1 p5
              rw [p1, p5] at hK ⊢
              clear p1 p5
              unfold RunsOp
              go_simp
              exact hK.out _ _ ⟨_, rfl, Only.refl _ _, rfl⟩
          case donegb =>
            intro vals wd hR hF
            have f0 : vals 0 = .pointer (some ⟨xb, 0, none⟩) := hF 0 (by decide)
            have f1 : vals 1 = .int .i64 xk := hF 1 (by decide)
            have f2 : vals 2 = .slice (some ⟨z, 0, none⟩) n n := hF 2 (by decide)
            have f3 : vals 3 = .int .i64 (k : Nat) := hF 3 (by decide)
            have f4 : vals 4 = .pointer (some ⟨z, k, none⟩) := hF 4 (by decide)
            have f5 : vals 5 = .int .i64 y := hF 5 (by decide)
            have f6 : vals 6 = .bool true := hF 6 (by decide)
            rw [f0, f1, f2, f3, f4, f5, f6]
            clear f0 f1 f2 f3 f4 f5 f6
            have HO9 := Lib.hid ((HOr.out.trans HOQ.out (by simp)).trans ((Only.refl [] wq).drew.trans hR (by simp)) (by simp))
            clear hR hF d1
            gi_wp2_with (fail)
            go_wp2_with (fail)
            go_ret
            exact ⟨by rw [decide_eq_false (HNE.out HQ.out)]; rfl, HO9.out⟩
      · have hke : k = n := by omega
        have iz : ¬ (n : Int) < (n : Int) := by omega
        have HE2 := Lib.hid (show kindsL es = want by
          have h := HP.out
          rw [hke, List.take_of_length_le (by rw [HKL.out, HE.out]; exact Nat.le_refl _), List.take_of_length_le (by rw [HN.out]; exact Nat.le_refl _)] at h
          exact h)
        rw [hke]
        clear hke hlt hk
        go_wp2_with (fail)
        go_ret
        exact ⟨by rw [decide_eq_true HE2.out]; rfl, HOr.out⟩
  · have HF := Lib.hid (show decide (kindsL es = want) = false from decide_eq_false (fun e => hlen (by rw [← hkl, e])))
    have d1 : ((es.length : Int) != (want.length : Int)) = true := by simp; omega
    have d2 : (es.length != want.length) = true := by simp [hlen]
    have HLE := Lib.hid hlen
    clear hR hz hlen hkl
    go_enter Tryd.func49, Tryd.ntmps49
    go_wp2_with (fail)
    go_ret
    exact ⟨by rw [HF.out]; rfl, Only.refl _ _⟩
set_option maxHeartbeats 4000000 in
theorem tuple_any {B0 B : Nat} {A : Option Addr} {cap : Nat} {es : List Tx} {w : World} (h : AR B0 B w A es) (hB0 : B0 ≤ w.heap.size) (hB : B ≤ w.heap.size) :
    Calls Tryd.prog 33 #[.slice A es.length cap] w fun r w' => RG B0 B w (tupleK (es.map Tx.tr)) r w' := by
  have hL : LiesT w (.mk 3 A cap es) := h.row.bks 3 cap ⟨by omega, by omega⟩
  have hTK : TK B0 B w (Tt.mk 3 (es.map Tx.tr)) (.mk 3 A cap es) := ⟨by rw [Tx.tr_mk], hL, fun b hb => by
    rcases bks_cases hb with ⟨p, e, hp, -, rfl⟩ | ⟨a, ha, hb⟩
    · exact .inr (h.at_ p hp)
    · exact h.off a ha b hb⟩
  have HTK := Lib.hid hTK
  have D48 := Lib.hid (fun W (o : Only [] w W) => (show Calls Tryd.prog 48 #[.agg #[.int .i64 3, .slice A es.length cap]] W fun x w'' => x = .returned (.bool ((Tt.mk 3 (es.map Tx.tr)).ok 3)) ∧ Only [] W w'' from (topT (hL.keep o)).mono (by rintro r w' ⟨rfl, o⟩; exact ⟨by rw [Tx.tr_mk], o⟩)))
  unfold tupleK
  obtain ⟨q, hq⟩ : ∃ q, (Tt.mk 3 (es.map Tx.tr)).ok 3 = q := ⟨_, rfl⟩
  rw [hq] at D48
  rw [hq]
  have HB := Lib.hid (And.intro hB0 hB)
  have R0 := Lib.hid (show Blk ((w.alloc (.cells #[.int .i64 0, .slice none 0 0] 34)).alloc (.cells #[.int .i64 3, .slice A es.length cap] 34)) w.heap.size 34 #[.int .i64 0, .slice none 0 0] from (Blk.new w _ _).alloc _)
  have hx := Blk.new (w.alloc (.cells #[.int .i64 0, .slice none 0 0] 34)) 34 #[.int .i64 3, .slice A es.length cap]
  simp only [World.size_alloc] at hx
  have X0 := Lib.hid hx
  have O0 := Lib.hid (show Only [] w ((w.alloc (.cells #[.int .i64 0, .slice none 0 0] 34)).alloc (.cells #[.int .i64 3, .slice A es.length cap] 34)) from ((Only.refl _ _).alloc _).alloc _)
  obtain ⟨b0, b1, bl⟩ := hx.facts2
  clear h hL hTK hq hB0 hB hx
  go_enter Tryd.func33, Tryd.ntmps33
  go_wp2_with (fail)
  refine (D48.out _ O0.out).mono ?_
  rintro r w1 ⟨rfl, o1⟩
  have O1 := Lib.hid (O0.out.trans o1 (by simp))
  have X1 := Lib.hid (o1.blk X0.out (by simp))
  have R1 := Lib.hid (o1.blk R0.out (by simp))
  clear o1 b0 b1 bl
  obtain ⟨b0, b1, bl⟩ := X1.out.facts2
  cases q with
  | false =>
    obtain ⟨r0, r1, rl⟩ := R1.out.facts2
    have g0 := R1.out.frozen 0
    have g1 := R1.out.frozen 1
    go_wp2_with (fail)
    have hb5 := (R1.out.set_ 0 (.int .i64 0)).set_ 1 (.slice none 0 0)
    obtain ⟨e0, e1, -⟩ := Blk.facts2 (a := .int .i64 0) (b := .slice none 0 0) hb5
    refine bodyPost_ret (v := .tuple #[.agg #[.int .i64 0, .slice none 0 0], .int .i64 7]) (by simp [results, Tryd.results33, go_sem, e0, e1]) rfl ?_
    clear e0 e1 hb5
    have o7 : Only [w.heap.size] w1 _ := ((Only.refl _ w1).setCell (p := ⟨w.heap.size, 0, none⟩) (.inl (by simp)) (.int .i64 0)).setCell (p := ⟨w.heap.size, 1, none⟩) (.inl (by simp)) (.slice none 0 0)
    exact ⟨0, none, 0, [], rfl, none_TK _ _ _, O1.out.trans o7 (fun b hb => .inr (by simp at hb; omega))⟩
  | true =>
    obtain ⟨r0, r1, rl⟩ := R1.out.facts2
    have g0 := R1.out.frozen 0
    have g1 := R1.out.frozen 1
    go_wp2_with (fail)
    have hb5 := (R1.out.set_ 0 (.int .i64 3)).set_ 1 (.slice A es.length cap)
    obtain ⟨e0, e1, -⟩ := Blk.facts2 (a := .int .i64 3) (b := .slice A es.length cap) hb5
    refine bodyPost_ret (v := .tuple #[.agg #[.int .i64 3, .slice A es.length cap], .int .i64 0]) (by simp [results, Tryd.results33, go_sem, e0, e1]) rfl ?_
    clear e0 e1 hb5
    have o7 : Only [w.heap.size] w1 _ := ((Only.refl _ w1).setCell (p := ⟨w.heap.size, 0, none⟩) (.inl (by simp)) (.int .i64 3)).setCell (p := ⟨w.heap.size, 1, none⟩) (.inl (by simp)) (.slice A es.length cap)
    have o8 := O1.out.trans o7 (fun b hb => .inr (by simp at hb; omega))
    exact ⟨3, A, cap, es, rfl, HTK.out.keep o8, o8⟩
set_option maxHeartbeats 4000000 in
theorem item_any {B0 B : Nat} {n : Int} {k : Int} {A : Option Addr} {cap : Nat} {l : List Tx} {w : World} (hn : 0 ≤ n ∧ n ≤ 1000) (h : TK B0 B w (Tx.mk k A cap l).tr (.mk k A cap l)) (_hB : B ≤ w.heap.size) :
    Calls Tryd.prog 34 #[.int .i64 n, .agg #[.int .i64 k, .slice A l.length cap]] w fun r w' => RG B0 B w (itemK n (Tx.mk k A cap l).tr) r w' := by
  have hi := h.lies.inv
  have HTK := Lib.hid h
  have hik : itemK n (Tx.mk k A cap l).tr = if k = 3 then (match l[n.toNat]? with | some x => (x.tr, (0 : Int)) | none => (noT, (12 : Int))) else (noT, (12 : Int)) := by
    rw [Tx.tr_mk]
    unfold itemK
    show (if k = 3 then (match (l.map Tx.tr)[n.toNat]? with | some x => (x, (0 : Int)) | none => (noT, (12 : Int))) else (noT, (12 : Int))) = _
    rw [List.getElem?_map]
    cases l[n.toNat]? <;> rfl
  rw [hik]
  clear hik
  have HR := Lib.hid h.lies.rowL
  have R0 := Lib.hid (show Blk ((w.alloc (.cells #[.int .i64 k, .slice A l.length cap] 34)).alloc (.cells #[.int .i64 0, .slice none 0 0] 34)) (w.heap.size + 1) 34 #[.int .i64 0, .slice none 0 0] from by
    have h := Blk.new (w.alloc (.cells #[.int .i64 k, .slice A l.length cap] 34)) 34 #[.int .i64 0, .slice none 0 0]
    simp only [World.size_alloc] at h
    exact h)
  have O0 := Lib.hid (show Only [] w ((w.alloc (.cells #[.int .i64 k, .slice A l.length cap] 34)).alloc (.cells #[.int .i64 0, .slice none 0 0] 34)) from ((Only.refl _ _).alloc _).alloc _)
  have hx : Blk ((w.alloc (.cells #[.int .i64 k, .slice A l.length cap] 34)).alloc (.cells #[.int .i64 0, .slice none 0 0] 34)) w.heap.size 34 #[.int .i64 k, .slice A l.length cap] := (Blk.new w _ _).alloc _
  obtain ⟨b0, b1, bl⟩ := hx.facts2
  have hn0 := hn.1
  have hn1 := hn.2
  have d0 : decide (n < 0) = false := decide_eq_false (by omega)
  clear hn h hi hx
  by_cases hk3 : k = 3
  · subst hk3
    rw [if_pos rfl]
    by_cases hnl : n < (l.length : Int)
    · obtain ⟨e, he⟩ : ∃ e, l[n.toNat]? = some e := ⟨_, List.getElem?_eq_getElem (by omega)⟩
      have hmem := List.mem_of_getElem? he
      have HE := Lib.hid (show TK B0 B w e.tr e from ⟨rfl, HR.out.sub e hmem, fun b hb => HTK.out.off b (bks_sub hmem hb)⟩)
      have hrow := (HR.out.row _ _ he).only O0.out (by simp)
      rw [he]
      show Calls Tryd.prog 34 _ w fun r w' => RG B0 B w (e.tr, (0 : Int)) r w'
      obtain ⟨xk, xA, xcap, xl⟩ := e
      obtain ⟨bb, o, rfl, hbb, c0, c1⟩ := hrow.cells
      have d1 : decide ((l.length : Int) ≤ n) = false := decide_eq_false (by omega)
      have HTR := Lib.hid (show ∃ t, (Tx.mk xk xA xcap xl).tr = t from ⟨_, rfl⟩)
      obtain ⟨r0, r1, rl⟩ := R0.out.facts2
      have g0 := R0.out.frozen 0
      have g1 := R0.out.frozen 1
      obtain ⟨m, hm⟩ : ∃ m : Nat, n = (m : Int) := ⟨n.toNat, by omega⟩
      subst hm
      rw [show ((m : Int)).toNat = m by omega] at c0 c1
      clear he hmem hrow
      go_enter Tryd.func34, Tryd.ntmps34
      go_wp2_with (fail)
      have hb5 := Blk.new (w.alloc (.cells #[.int .i64 3, .slice (some ⟨bb, o, none⟩) l.length cap] 34)) 34 #[.int .i64 xk, .slice xA xl.length xcap]
      simp only [World.size_alloc] at hb5
      obtain ⟨e0, e1, -⟩ := hb5.facts2
      refine bodyPost_ret (v := .tuple #[.agg #[.int .i64 xk, .slice xA xl.length xcap], .int .i64 0]) (by simp [results, Tryd.results34, go_sem, e0, e1]) rfl ?_
      have o8 : Only [] w ((w.alloc (.cells #[.int .i64 3, .slice (some ⟨bb, o, none⟩) l.length cap] 34)).alloc (.cells #[.int .i64 xk, .slice xA xl.length xcap] 34)) := ((Only.refl _ _).alloc _).alloc _
      exact ⟨xk, xA, xcap, xl, rfl, HE.out.keep o8, o8⟩
    · have he : l[n.toNat]? = none := List.getElem?_eq_none (by omega)
      rw [he]
      show Calls Tryd.prog 34 _ w fun r w' => RG B0 B w (noT, (12 : Int)) r w'
      have d1 : decide ((l.length : Int) ≤ n) = true := decide_eq_true (by omega)
      obtain ⟨r0, r1, rl⟩ := R0.out.facts2
      have g0 := R0.out.frozen 0
      have g1 := R0.out.frozen 1
      clear he
      go_enter Tryd.func34, Tryd.ntmps34
      go_wp2_with (fail)
      refine bodyPost_ret (v := .tuple #[.agg #[.int .i64 0, .slice none 0 0], .int .i64 12]) (by simp [results, Tryd.results34, go_sem, r0, r1]) rfl ?_
      exact ⟨0, none, 0, [], rfl, none_TK _ _ _, O0.out⟩
  · rw [if_neg hk3]
    have d1 : (k != 3) = true := by simp [hk3]
    obtain ⟨r0, r1, rl⟩ := R0.out.facts2
    have g0 := R0.out.frozen 0
    have g1 := R0.out.frozen 1
    have HK3 := Lib.hid hk3
    clear hk3
    go_enter Tryd.func34, Tryd.ntmps34
    go_wp2_with (fail)
    refine bodyPost_ret (v := .tuple #[.agg #[.int .i64 0, .slice none 0 0], .int .i64 12]) (by simp [results, Tryd.results34, go_sem, r0, r1]) rfl ?_
    exact ⟨0, none, 0, [], rfl, none_TK _ _ _, O0.out⟩
end Go.Proofs.YtjhpckeoackblaaDoor
