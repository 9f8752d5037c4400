/- The document's Type. -/
import Derived.Test.YtjhpckeoackblaaDoorRKa
import Derived.Test.YtjhpckeoackblaaDoorRKb
import Derived.Test.YtjhpckeoackblaaDoorRKc
import Derived.Test.YtjhpckeoackblaaDoorRKd
namespace Go.Proofs.YtjhpckeoackblaaDoor
open Go.RowKit Go.Kx
open Go.Val (Tt)
set_option maxRecDepth 100000
theorem rkind_any {B0 : Nat} {A1 : Option Addr} {c1 : Nat} {vars : List Vr} {A2 : Option Addr} {c2 : Nat} {ports : List Pr} {bag : Bool} {A3 : Option Addr} {c3 : Nat} {of : List Vr} (hok : OkN vars ports of) (hlow : LowN B0 vars ports of) : ∀ e : Ex, KindAt B0 A1 c1 vars A2 c2 ports bag A3 c3 of e := by
  refine Ex.ind (fun e ih => ?_)
  obtain ⟨op, n, nm, sb, A, cap, args⟩ := e
  intro w hB hL hr hN
  have h0 : 0 ≤ op ∧ op ≤ 25 := by
    have h := hr
    rw [right_mk, Bool.and_eq_true] at h
    exact (ar_of h.1).op0
  have ih' : ∀ a ∈ args, KindAt B0 A1 c1 vars A2 c2 ports bag A3 c3 of a := ih
  by_cases ha : op = 0 ∨ op = 1 ∨ op = 2 ∨ op = 3 ∨ op = 4 ∨ op = 5 ∨ op = 6 ∨ op = 11
  · exact rkindA hok hlow ih' ha w hB hL hr hN
  by_cases hb : op = 12 ∨ op = 25
  · exact rkindB hok hlow ih' hb w hB hL hr hN
  by_cases hc : op = 7 ∨ op = 8 ∨ op = 9 ∨ op = 10
  · exact rkindC hok hlow ih' hc w hB hL hr hN
  · exact rkindD hok hlow ih' (by omega) w hB hL hr hN
end Go.Proofs.YtjhpckeoackblaaDoor
namespace Go.Proofs.YtjhpckeoackblaaDoor
open Go.RowKit Go.Kx
open Go.Val (Tt)
set_option maxRecDepth 100000
set_option maxHeartbeats 4000000 in
theorem reftype_any {B0 : Nat} {A1 : Option Addr} {c1 : Nat} {vars : List Vr} {A2 : Option Addr} {c2 : Nat} {ports : List Pr} {bag : Bool} {A3 : Option Addr} {c3 : Nat} {of : List Vr} {e : Ex} {w : World} (hok : OkN vars ports of) (hlow : LowN B0 vars ports of) (hB : B0 ≤ w.heap.size) (hL : Lies w e) (hN : LiesN w A1 vars A2 ports A3 of) :
    Calls Tryd.prog 14 #[e.val, .agg #[.slice A1 vars.length c1, .slice A2 ports.length c2, .bool bag, .slice A3 of.length c3]] w fun r w' => RK B0 w (e.tr.type ⟨vars.map Vr.tr, ports.map Pr.tr, bag, of.map Vr.tr⟩) r w' := by
  have D17 := Lib.hid (fun W (o : Only [] w W) => rr_ok (hL.keep o))
  have D18 := Lib.hid (fun W (o : Only [] w W) (h : e.tr.ok = true) => rkind_any (B0 := B0) (c1 := c1) (c2 := c2) (bag := bag) (c3 := c3) hok hlow e W (Nat.le_trans hB o.size) (hL.keep o) (by unfold Tr.ok at h; rw [Bool.and_eq_true] at h; exact h.2) (hN.keep o))
  have HKO := Lib.hid (kind_ok (hok.nm bag) e.tr)
  have HT := Lib.hid (show e.tr.type ⟨vars.map Vr.tr, ports.map Pr.tr, bag, of.map Vr.tr⟩ = if e.tr.ok = true then e.tr.kind ⟨vars.map Vr.tr, ports.map Pr.tr, bag, of.map Vr.tr⟩ else (noT, 1) from rfl)
  obtain ⟨q, hq⟩ : ∃ q, e.tr.ok = q := ⟨_, rfl⟩
  rw [hq] at D17 HT
  simp only [hq] at D18
  obtain ⟨pe, hpe⟩ : ∃ pe, e.tr.kind ⟨vars.map Vr.tr, ports.map Pr.tr, bag, of.map Vr.tr⟩ = pe := ⟨_, rfl⟩
  rw [hpe] at HT HKO
  simp only [hpe] at D18
  obtain ⟨pt, hpt⟩ : ∃ pt, e.tr.type ⟨vars.map Vr.tr, ports.map Pr.tr, bag, of.map Vr.tr⟩ = pt := ⟨_, rfl⟩
  rw [hpt] at HT
  rw [hpt]
  obtain ⟨n1, hn1⟩ : ∃ n1, vars.length = n1 := ⟨_, rfl⟩
  obtain ⟨n2, hn2⟩ : ∃ n2, ports.length = n2 := ⟨_, rfl⟩
  obtain ⟨n3, hn3⟩ : ∃ n3, of.length = n3 := ⟨_, rfl⟩
  rw [hn1, hn2, hn3]
  rw [hn1, hn2, hn3] at D18
  have HB0 := Lib.hid hB
  clear hq hpe hpt hn1 hn2 hn3 hok hlow hB hL hN
  obtain ⟨op, n, nm, sb, A, cap, args⟩ := e
  obtain ⟨ne, hne⟩ : ∃ ne, args.length = ne := ⟨_, rfl⟩
  have D17b := Lib.hid (show ∀ W, Only [] w W → Calls Tryd.prog 21 #[.agg #[.int .i64 op, .int .i64 n, .string nm, .string sb, .slice A args.length cap], .int .i64 20] W fun r w' => r = .returned (.bool q) ∧ Only [] W w' from D17.out)
  have D18b := Lib.hid (show ∀ W, Only [] w W → q = true → Calls Tryd.prog 22 #[.agg #[.int .i64 op, .int .i64 n, .string nm, .string sb, .slice A args.length cap], .agg #[.slice A1 n1 c1, .slice A2 n2 c2, .bool bag, .slice A3 n3 c3]] W fun r w' => RK B0 W pe r w' from D18.out)
  show Calls Tryd.prog 14 #[.agg #[.int .i64 op, .int .i64 n, .string nm, .string sb, .slice A args.length cap], .agg #[.slice A1 n1 c1, .slice A2 n2 c2, .bool bag, .slice A3 n3 c3]] w fun r w' => RK B0 w pt r w'
  rw [hne] at D17b D18b ⊢
  clear hne D17 D18
  have h0 := Blk.new w 24 #[.int .i64 op, .int .i64 n, .string nm, .string sb, .slice A ne cap]
  have h1 := Blk.new (w.alloc (.cells #[.int .i64 op, .int .i64 n, .string nm, .string sb, .slice A ne cap] 24)) 28 #[.slice A1 n1 c1, .slice A2 n2 c2, .bool bag, .slice A3 n3 c3]
  have h2 := Blk.new ((w.alloc (.cells #[.int .i64 op, .int .i64 n, .string nm, .string sb, .slice A ne cap] 24)).alloc (.cells #[.slice A1 n1 c1, .slice A2 n2 c2, .bool bag, .slice A3 n3 c3] 28)) 34 #[.int .i64 0, .slice none 0 0]
  simp only [World.size_alloc] at h1 h2
  have HX0 := Lib.hid (show Blk (((w.alloc (.cells #[.int .i64 op, .int .i64 n, .string nm, .string sb, .slice A ne cap] 24)).alloc (.cells #[.slice A1 n1 c1, .slice A2 n2 c2, .bool bag, .slice A3 n3 c3] 28)).alloc (.cells #[.int .i64 0, .slice none 0 0] 34)) w.heap.size 24 #[.int .i64 op, .int .i64 n, .string nm, .string sb, .slice A ne cap] from Blk.alloc (Blk.alloc h0 _) _)
  have HN0 := Lib.hid (show Blk (((w.alloc (.cells #[.int .i64 op, .int .i64 n, .string nm, .string sb, .slice A ne cap] 24)).alloc (.cells #[.slice A1 n1 c1, .slice A2 n2 c2, .bool bag, .slice A3 n3 c3] 28)).alloc (.cells #[.int .i64 0, .slice none 0 0] 34)) (w.heap.size + 1) 28 #[.slice A1 n1 c1, .slice A2 n2 c2, .bool bag, .slice A3 n3 c3] from Blk.alloc h1 _)
  have R0 := Lib.hid h2
  have O0 := Lib.hid (show Only [] w (((w.alloc (.cells #[.int .i64 op, .int .i64 n, .string nm, .string sb, .slice A ne cap] 24)).alloc (.cells #[.slice A1 n1 c1, .slice A2 n2 c2, .bool bag, .slice A3 n3 c3] 28)).alloc (.cells #[.int .i64 0, .slice none 0 0] 34)) from (((Only.refl [] w).alloc _).alloc _).alloc _)
  clear h0 h1 h2
  obtain ⟨x0, x1, x2, x3, x4, xl⟩ := HX0.out.facts5
  go_enter Tryd.func14, Tryd.ntmps14
  go_wp2_with (fail)
  refine (D17b.out _ O0.out).mono ?_
  rintro r w1 ⟨rfl, o1⟩
  have O1 := Lib.hid (O0.out.trans o1 (by simp))
  have X1 := Lib.hid (o1.blk HX0.out (by simp))
  have N1 := Lib.hid (o1.blk HN0.out (by simp))
  have R1 := Lib.hid (o1.blk R0.out (by simp))
  clear o1 x0 x1 x2 x3 x4 xl
  cases q with
  | false =>
    obtain ⟨r0, r1, rl⟩ := R1.out.facts2
    have g0 := R1.out.frozen 0
    have g1 := R1.out.frozen 1
    go_wp2_with (fail)
    have hb5 := (R1.out.set_ 0 (.int .i64 0)).set_ 1 (.slice none 0 0)
    obtain ⟨e0, e1, -⟩ := Blk.facts2 (a := .int .i64 0) (b := .slice none 0 0) hb5
    refine bodyPost_ret (v := .tuple #[.agg #[.int .i64 0, .slice none 0 0], .int .i64 1]) (by simp [results, Tryd.results14, go_sem, e0, e1]) rfl ?_
    clear e0 e1 hb5
    have o7 : Only [w.heap.size + 1 + 1] w1 _ := ((Only.refl _ w1).setCell (p := ⟨w.heap.size + 1 + 1, 0, none⟩) (.inl (by simp)) (.int .i64 0)).setCell (p := ⟨w.heap.size + 1 + 1, 1, none⟩) (.inl (by simp)) (.slice none 0 0)
    have hp := HT.out
    simp at hp
    subst hp
    exact ⟨0, none, 0, [], rfl, plain_TK _ _ 0 ⟨by omega, by omega⟩ _, O1.out.trans o7 (fun b hb => .inr (by simp at hb; omega))⟩
  | true =>
    have hp := HT.out
    simp at hp
    subst hp
    obtain ⟨x0, x1, x2, x3, x4, xl⟩ := X1.out.facts5
    obtain ⟨b0, b1, b2, b3, bl⟩ := N1.out.facts4
    go_wp2_with (fail)
    refine (D18b.out _ O1.out (by first | rfl | trivial)).mono ?_
    rintro r w2 ⟨yk, yA, ycap, yl, rfl, hc, o2⟩
    have O2 := Lib.hid (O1.out.trans o2 (by simp))
    have R2 := Lib.hid (o2.blk R1.out (by simp))
    have HC := Lib.hid hc
    clear o2 hc x0 x1 x2 x3 x4 xl b0 b1 b2 b3 bl
    obtain ⟨r0, r1, rl⟩ := R2.out.facts2
    have g0 := R2.out.frozen 0
    have g1 := R2.out.frozen 1
    go_wp2_with (fail)
    have hb5 := (R2.out.set_ 0 (.int .i64 yk)).set_ 1 (.slice yA yl.length ycap)
    obtain ⟨e0, e1, -⟩ := Blk.facts2 (a := .int .i64 yk) (b := .slice yA yl.length ycap) hb5
    refine bodyPost_ret (v := .tuple #[.agg #[.int .i64 yk, .slice yA yl.length ycap], .int .i64 pt.2]) (by simp [results, Tryd.results14, go_sem, e0, e1]) rfl ?_
    clear e0 e1 hb5
    have o7 : Only [w.heap.size + 1 + 1] w2 _ := ((Only.refl _ w2).setCell (p := ⟨w.heap.size + 1 + 1, 0, none⟩) (.inl (by simp)) (.int .i64 yk)).setCell (p := ⟨w.heap.size + 1 + 1, 1, none⟩) (.inl (by simp)) (.slice yA yl.length ycap)
    exact ⟨yk, yA, ycap, yl, rfl, ((HC.out.low (B' := w.heap.size + 3) (by have := R1.out.lt; omega)).only o7 (by have := HB0.out; simp; omega)).low (by omega), O2.out.trans o7 (fun b hb => .inr (by simp at hb; omega))⟩
end Go.Proofs.YtjhpckeoackblaaDoor
