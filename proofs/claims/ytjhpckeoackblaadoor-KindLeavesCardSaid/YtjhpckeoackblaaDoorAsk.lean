/- What a name's type is. -/
import Derived.Test.YtjhpckeoackblaaDoorFirst
namespace Go.Proofs.YtjhpckeoackblaaDoor
open Go.RowKit Go.Kx
open Go.Val (Tt)
set_option maxRecDepth 100000
/-- a type as it is told: of B0 or below, or made anew -/
structure TK (B0 B : Nat) (w : World) (t : Tt) (y : Tx) : Prop where
  tr : y.tr = t
  lies : LiesT w y
  off : ∀ b ∈ y.bks, b < B0 ∨ B ≤ b
theorem TK.keep {B0 B : Nat} {w w' : World} {t : Tt} {y : Tx} (h : TK B0 B w t y) (o : Only [] w w') : TK B0 B w' t y := ⟨h.tr, h.lies.keep o, h.off⟩
theorem TK.low {B0 B B' : Nat} {w : World} {t : Tt} {y : Tx} (h : TK B0 B w t y) (hB : B' ≤ B) : TK B0 B' w t y := ⟨h.tr, h.lies, fun b hb => (h.off b hb).imp id (fun h => Nat.le_trans hB h)⟩
theorem TK.only {B0 B : Nat} {T : List Nat} {w w' : World} {t : Tt} {y : Tx} (h : TK B0 B w t y) (o : Only T w w') (hT : ∀ x ∈ T, B0 ≤ x ∧ x < B) : TK B0 B w' t y :=
  ⟨h.tr, h.lies.only o (fun b hb hm => by have := hT _ hm; rcases h.off b hb with h | h <;> omega), h.off⟩
theorem TK.of {B0 B : Nat} {w : World} {t : Tt} {y : Tx} (h : CpK B w t y) : TK B0 B w t y := ⟨h.tr, h.lies, fun b hb => .inr (h.off b hb)⟩
theorem plain_lies (k : Int) (hk : I64 k) (w : World) : LiesT w (.mk k none 0 []) := .mk hk (by simp) (fun i e h => by simp at h) (fun e h => by simp at h)
theorem plain_TK (B0 B : Nat) (k : Int) (hk : I64 k) (w : World) : TK B0 B w (.mk k []) (.mk k none 0 []) := ⟨by rw [Tx.tr_mk]; rfl, plain_lies k hk w, fun b hb => by simp [Tx.bks_mk, hdB] at hb⟩
theorem none_TK (B0 B : Nat) (w : World) : TK B0 B w noT (.mk 0 none 0 []) := plain_TK B0 B 0 ⟨by omega, by omega⟩ w
/-- what is answered: a type, and an error -/
def RK (B0 : Nat) (w : World) (p : Tt × Int) (r : Ending) (w' : World) : Prop :=
  ∃ yk yA ycap yl, r = .returned (.tuple #[.agg #[.int .i64 yk, .slice yA (List.length yl) ycap], .int .i64 p.2]) ∧ TK B0 w.heap.size w' p.1 (.mk yk yA ycap yl) ∧ Only [] w w'
theorem plain_any (k : Int) (w : World) : Calls Tryd.prog 29 #[.int .i64 k] w fun r w' => r = .returned (.agg #[.int .i64 k, .slice none 0 0]) ∧ Only [] w w' := by
  have HB := Lib.hid (Blk.new w 34 #[.int .i64 0, .slice none 0 0])
  have HO := Lib.hid (show Only [] w (w.alloc (.cells #[.int .i64 0, .slice none 0 0] 34)) from (Only.refl _ _).alloc _)
  obtain ⟨r0, r1, rl⟩ := HB.out.facts2
  have g0 := HB.out.frozen 0
  have g1 := HB.out.frozen 1
  obtain ⟨e0, e1, -⟩ := (Blk.new w 34 #[.int .i64 k, .slice none 0 0]).facts2
  have E0 := Lib.hid e0
  have E1 := Lib.hid e1
  clear e0 e1
  go_enter Tryd.func29, Tryd.ntmps29
  go_wp2_with (fail)
  refine bodyPost_ret (v := .agg #[.int .i64 k, .slice none 0 0]) (by simp [results, Tryd.results29, go_sem, E0.out, E1.out]) rfl ?_
  exact ⟨rfl, (Only.refl _ _).alloc _⟩
theorem str_eq (a b : ByteArray) : (a.toList == b.toList) = decide (a = b) := by
  rw [Bool.eq_iff_iff, beq_iff_eq, decide_eq_true_eq]
  constructor
  · intro h
    rw [ByteArray.toList_eq, ByteArray.toList_eq] at h
    apply ByteArray.ext
    exact Array.ext' h
  · rintro rfl; rfl
theorem str_eq2 (a b : ByteArray) : decide (a.toList = b.toList) = decide (a = b) := by rw [← str_eq, Bool.eq_iff_iff]; simp
set_option maxHeartbeats 4000000 in
theorem known_any {B0 : Nat} {k : Int} {A : Option Addr} {cap : Nat} {l : List Tx} (q : Bool) {w : World} (hB : B0 ≤ w.heap.size) (hL : LiesT w (.mk k A cap l)) (hok : (Tx.mk k A cap l).tr.ok 3 = true) :
    Calls Tryd.prog 44 #[.agg #[.int .i64 k, .slice A l.length cap], .bool q] w fun r w' => RK B0 w (if q = true then ((Tx.mk k A cap l).tr, 0) else (noT, 10)) r w' := by
  have D48 := Lib.hid (fun W (o : Only [] w W) => (show Calls Tryd.prog 48 #[.agg #[.int .i64 k, .slice A l.length cap]] W fun x w'' => x = .returned (.bool true) ∧ Only [] W w'' from (topT (hL.keep o)).mono (by rintro r w' ⟨rfl, o⟩; exact ⟨by rw [hok], o⟩)))
  have D19 := Lib.hid (fun W (o : Only [] w W) => (show Calls Tryd.prog 19 #[.agg #[.int .i64 k, .slice A l.length cap]] W fun r w'' => ∃ yk yA ycap yl, r = .returned (.agg #[.int .i64 yk, .slice yA (List.length yl) ycap]) ∧ CpK W.heap.size w'' (Tx.mk k A cap l).tr (.mk yk yA ycap yl) ∧ Only [] W w'' from (copyT _ W (hL.keep o) 3 hok).mono fun r w'' ⟨e', h1, h2, h3⟩ => by
    obtain ⟨yk, yA, ycap, yl⟩ := e'
    exact ⟨yk, yA, ycap, yl, h1, h2, h3⟩))
  obtain ⟨tr, htr⟩ : ∃ tr, (Tx.mk k A cap l).tr = tr := ⟨_, rfl⟩
  rw [htr] at D19
  rw [htr]
  obtain ⟨n9, hn9⟩ : ∃ n9, l.length = n9 := ⟨_, rfl⟩
  rw [hn9] at D48 D19 ⊢
  have HB0 := Lib.hid hB
  have X0 := Lib.hid (show Blk ((w.alloc (.cells #[.int .i64 k, .slice A n9 cap] 34)).alloc (.cells #[.int .i64 0, .slice none 0 0] 34)) w.heap.size 34 #[.int .i64 k, .slice A n9 cap] from (Blk.new w _ _).alloc _)
  have hr := Blk.new (w.alloc (.cells #[.int .i64 k, .slice A n9 cap] 34)) 34 #[.int .i64 0, .slice none 0 0]
  simp only [World.size_alloc] at hr
  have R0 := Lib.hid hr
  have O0 := Lib.hid (show Only [] w ((w.alloc (.cells #[.int .i64 k, .slice A n9 cap] 34)).alloc (.cells #[.int .i64 0, .slice none 0 0] 34)) from ((Only.refl _ _).alloc _).alloc _)
  clear hB hL hok htr hn9 hr
  cases q with
  | false =>
    go_enter Tryd.func44, Tryd.ntmps44
    obtain ⟨r0, r1, rl⟩ := R0.out.facts2
    have g0 := R0.out.frozen 0
    have g1 := R0.out.frozen 1
    go_wp2_with (fail)
    refine bodyPost_ret (v := .tuple #[.agg #[.int .i64 0, .slice none 0 0], .int .i64 10]) (by simp [results, Tryd.results44, go_sem, r0, r1]) rfl ?_
    exact ⟨0, none, 0, [], rfl, none_TK _ _ _, O0.out⟩
  | true =>
    obtain ⟨b0, b1, bl⟩ := X0.out.facts2
    go_enter Tryd.func44, Tryd.ntmps44
    go_wp2_with (fail)
    refine (D48.out _ O0.out).mono ?_
    rintro r w1 ⟨rfl, o1⟩
    have O1 := Lib.hid (O0.out.trans o1 (by simp))
    have X1 := Lib.hid (o1.blk X0.out (by simp))
    have R1 := Lib.hid (o1.blk R0.out (by simp))
    clear o1 b0 b1 bl
    obtain ⟨b0, b1, bl⟩ := X1.out.facts2
    go_wp2_with (fail)
    refine (D19.out _ O1.out).mono ?_
    rintro r w2 ⟨yk, yA, ycap, yl, rfl, hc, o2⟩
    have O2 := Lib.hid (O1.out.trans o2 (by simp))
    have R2 := Lib.hid (o2.blk R1.out (by simp))
    have HC := Lib.hid (hc.low (B' := w.heap.size + 2) (by have := R1.out.lt; omega))
    clear hc o2 b0 b1 bl
    obtain ⟨r0, r1, rl⟩ := R2.out.facts2
    have g0 := R2.out.frozen 0
    have g1 := R2.out.frozen 1
    go_wp2_with (fail)
    have hb5 := (R2.out.set_ 0 (.int .i64 yk)).set_ 1 (.slice yA yl.length ycap)
    obtain ⟨e0, e1, -⟩ := Blk.facts2 (a := .int .i64 yk) (b := .slice yA yl.length ycap) hb5
    refine bodyPost_ret (v := .tuple #[.agg #[.int .i64 yk, .slice yA yl.length ycap], .int .i64 0]) (by simp [results, Tryd.results44, go_sem, e0, e1]) rfl ?_
    clear e0 e1 hb5
    have o7 : Only [w.heap.size + 1] w2 _ := ((Only.refl _ w2).setCell (p := ⟨w.heap.size + 1, 0, none⟩) (.inl (by simp)) (.int .i64 yk)).setCell (p := ⟨w.heap.size + 1, 1, none⟩) (.inl (by simp)) (.slice yA yl.length ycap)
    exact ⟨yk, yA, ycap, yl, rfl, ((TK.of (HC.out)).only o7 (by have := HB0.out; simp; omega)).low (by omega), O2.out.trans o7 (fun b hb => .inr (by simp at hb; omega))⟩
theorem eg43 : ∀ args w, (callFunc 43 args).run Tryd.prog w = .ok (.enter 43 args) w := enters Tryd.func43 (by kernel_rfl) rfl
theorem eg45 : ∀ args w, (callFunc 45 args).run Tryd.prog w = .ok (.enter 45 args) w := enters Tryd.func45 (by kernel_rfl) rfl
theorem eg55 : ∀ args w, (callFunc 55 args).run Tryd.prog w = .ok (.enter 55 args) w := enters Tryd.func55 (by kernel_rfl) rfl
theorem clo43 {v : Vr} {nb : Nat} {name : ByteArray} {w : World} (hb : Blk w nb 9 #[.string name]) : Calls Tryd.prog 43 (#[v.val] ++ #[.pointer (some ⟨nb, 0, none⟩)]) w fun r w' => r = .returned (.bool (decide (v.s = name))) ∧ Only [] w w' := by
  obtain ⟨xp, xs, xk, xA, xcap, xl⟩ := v
  obtain ⟨n0, nl⟩ := hb.facts1
  have e1 := str_eq xs name
  have e2 := str_eq2 xs name
  show Calls Tryd.prog 43 #[.agg #[.string xp, .string xs, .int .i64 xk, .slice xA xl.length xcap], .pointer (some ⟨nb, 0, none⟩)] w fun r w' => r = .returned (.bool (decide (xs = name))) ∧ Only [] w w'
  generalize decide (xs = name) = q at *
  clear hb
  go_enter Tryd.func43, Tryd.ntmps43
  go_wp2_with (fail)
  go_ret
  exact ⟨rfl, (Only.refl _ _).alloc _⟩
theorem clo45 {v : Vr} {nb mb : Nat} {part name : ByteArray} {w : World} (hb : Blk w nb 9 #[.string part]) (hm : Blk w mb 9 #[.string name]) : Calls Tryd.prog 45 (#[v.val] ++ #[.pointer (some ⟨nb, 0, none⟩), .pointer (some ⟨mb, 0, none⟩)]) w fun r w' => r = .returned (.bool (decide (v.p = part) && decide (v.s = name))) ∧ Only [] w w' := by
  obtain ⟨xp, xs, xk, xA, xcap, xl⟩ := v
  obtain ⟨n0, nl⟩ := hb.facts1
  obtain ⟨m0, ml⟩ := hm.facts1
  have e1 := str_eq xs name
  have e2 := str_eq2 xs name
  have e3 := str_eq xp part
  have e4 := str_eq2 xp part
  show Calls Tryd.prog 45 #[.agg #[.string xp, .string xs, .int .i64 xk, .slice xA xl.length xcap], .pointer (some ⟨nb, 0, none⟩), .pointer (some ⟨mb, 0, none⟩)] w fun r w' => r = .returned (.bool (decide (xp = part) && decide (xs = name))) ∧ Only [] w w'
  generalize decide (xs = name) = q at *
  generalize decide (xp = part) = q2 at *
  clear hb hm
  cases q2 with
  | false =>
    go_enter Tryd.func45, Tryd.ntmps45
    go_wp2_with (fail)
    go_ret
    exact ⟨rfl, (Only.refl _ _).alloc _⟩
  | true =>
    go_enter Tryd.func45, Tryd.ntmps45
    go_wp2_with (fail)
    go_ret
    exact ⟨rfl, (Only.refl _ _).alloc _⟩
theorem clo55 {v : Pr} {nb : Nat} {name : ByteArray} {w : World} (hb : Blk w nb 9 #[.string name]) : Calls Tryd.prog 55 (#[v.val] ++ #[.pointer (some ⟨nb, 0, none⟩)]) w fun r w' => r = .returned (.bool (decide (v.s = name))) ∧ Only [] w w' := by
  obtain ⟨xs, xk, xA, xcap, xl⟩ := v
  obtain ⟨n0, nl⟩ := hb.facts1
  have e1 := str_eq xs name
  have e2 := str_eq2 xs name
  show Calls Tryd.prog 55 #[.agg #[.string xs, .int .i64 xk, .slice xA xl.length xcap], .pointer (some ⟨nb, 0, none⟩)] w fun r w' => r = .returned (.bool (decide (xs = name))) ∧ Only [] w w'
  generalize decide (xs = name) = q at *
  clear hb
  go_enter Tryd.func55, Tryd.ntmps55
  go_wp2_with (fail)
  go_ret
  exact ⟨rfl, (Only.refl _ _).alloc _⟩
end Go.Proofs.YtjhpckeoackblaaDoor
