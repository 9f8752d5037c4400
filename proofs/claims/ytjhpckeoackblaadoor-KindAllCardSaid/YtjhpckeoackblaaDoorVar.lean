/- The types of variables and ports. -/
import Derived.Test.YtjhpckeoackblaaDoorAsk
namespace Go.Proofs.YtjhpckeoackblaaDoor
open Go.RowKit Go.Kx
open Go.Val (Tt)
set_option maxRecDepth 100000
theorem fst_Vr (o : Option Vr) : fstVr o = .tuple #[(o.getD default).val, .bool o.isSome] := by cases o <;> rfl
theorem fst_Pr (o : Option Pr) : fstPr o = .tuple #[(o.getD default).val, .bool o.isSome] := by cases o <;> rfl
theorem got_Vr {w : World} {A : Option Addr} {l : List Vr} (h : RowVr w A l) (hok : ∀ v ∈ l, v.t.tr.ok 3 = true) (p : Vr → Bool) : LiesT w ((l.find? p).getD default).t ∧ ((l.find? p).getD default).t.tr.ok 3 = true := by
  cases hf : l.find? p with
  | none => exact ⟨plain_lies 0 ⟨by omega, by omega⟩ w, by show (Tx.mk 0 none 0 []).tr.ok 3 = true; rw [Tx.tr_mk]; exact ok_noT⟩
  | some v => exact ⟨(h.sub v (List.mem_of_find?_eq_some hf)).1, hok v (List.mem_of_find?_eq_some hf)⟩
theorem got_Pr {w : World} {A : Option Addr} {l : List Pr} (h : RowPr w A l) (hok : ∀ v ∈ l, v.t.tr.ok 3 = true) (p : Pr → Bool) : LiesT w ((l.find? p).getD default).t ∧ ((l.find? p).getD default).t.tr.ok 3 = true := by
  cases hf : l.find? p with
  | none => exact ⟨plain_lies 0 ⟨by omega, by omega⟩ w, by show (Tx.mk 0 none 0 []).tr.ok 3 = true; rw [Tx.tr_mk]; exact ok_noT⟩
  | some v => exact ⟨(h.sub v (List.mem_of_find?_eq_some hf)).1, hok v (List.mem_of_find?_eq_some hf)⟩
theorem varK_of (vars : List Vr) (ports : List Pr) (bag : Bool) (of : List Vr) (name : ByteArray) : varK ⟨vars.map Vr.tr, ports.map Pr.tr, bag, of.map Vr.tr⟩ name = if (vars.find? (fun v => decide (v.s = name))).isSome = true then (((vars.find? (fun v => decide (v.s = name))).getD default).t.tr, 0) else (noT, 10) := by
  unfold varK
  rw [List.find?_map, show ((fun v : ByteArray × ByteArray × Tt => decide (v.2.1 = name)) ∘ Vr.tr) = fun v => decide (v.s = name) from funext fun v => by cases v; rfl]
  cases vars.find? (fun v => decide (v.s = name)) with
  | none => rfl
  | some v => cases v; rfl
theorem ofK_of (vars : List Vr) (ports : List Pr) (bag : Bool) (of : List Vr) (part name : ByteArray) : ofK ⟨vars.map Vr.tr, ports.map Pr.tr, bag, of.map Vr.tr⟩ part name = if (of.find? (fun v => decide (v.p = part) && decide (v.s = name))).isSome = true then (((of.find? (fun v => decide (v.p = part) && decide (v.s = name))).getD default).t.tr, 0) else (noT, 10) := by
  unfold ofK
  rw [List.find?_map, show ((fun v : ByteArray × ByteArray × Tt => decide (v.1 = part) && decide (v.2.1 = name)) ∘ Vr.tr) = fun v => decide (v.p = part) && decide (v.s = name) from funext fun v => by cases v; rfl]
  cases of.find? (fun v => decide (v.p = part) && decide (v.s = name)) with
  | none => rfl
  | some v => cases v; rfl
/-- what comes through a port -/
def portR (nm : Nm) (s : ByteArray) : Tt × Int := match portK nm s with | some t => (t, 0) | none => (noT, 10)
theorem portR_of (vars : List Vr) (ports : List Pr) (bag : Bool) (of : List Vr) (name : ByteArray) : portR ⟨vars.map Vr.tr, ports.map Pr.tr, bag, of.map Vr.tr⟩ name = if bag = true then (if (ports.find? (fun v => decide (v.s = name))).isSome = true then (((ports.find? (fun v => decide (v.s = name))).getD default).t.tr, 0) else (noT, 10)) else (noT, 10) := by
  unfold portR portK
  dsimp only
  cases bag with
  | false => rfl
  | true =>
    rw [if_pos rfl, if_pos rfl, List.find?_map, show ((fun v : ByteArray × Tt => decide (v.1 = name)) ∘ Pr.tr) = fun v => decide (v.s = name) from funext fun v => by cases v; rfl]
    cases ports.find? (fun v => decide (v.s = name)) with
    | none => rfl
    | some v => cases v; rfl
set_option maxHeartbeats 4000000 in
theorem variable_any {B0 : Nat} {A1 : Option Addr} {c1 : Nat} {vars : List Vr} {A2 : Option Addr} {c2 : Nat} {ports : List Pr} {bag : Bool} {A3 : Option Addr} {c3 : Nat} {of : List Vr} {name : ByteArray} {w : World} (hB : B0 ≤ w.heap.size) (hN : LiesN w A1 vars A2 ports A3 of) (hok : ∀ v ∈ vars, v.t.tr.ok 3 = true) (hln : vars.length ≤ 1000000) :
    Calls Tryd.prog 30 #[.string name, .agg #[.slice A1 vars.length c1, .slice A2 ports.length c2, .bool bag, .slice A3 of.length c3]] w fun r w' => RK B0 w (varK ⟨vars.map Vr.tr, ports.map Pr.tr, bag, of.map Vr.tr⟩ name) r w' := by
  rw [varK_of]
  have hg := got_Vr hN.vars hok (fun v => decide (v.s = name))
  have C42 := Lib.hid (fun W (o : Only [] w W) q0 (h0 : Blk W q0 9 #[.string name]) => firstVr 43 #[.pointer (some ⟨q0, 0, none⟩)] (fun v => decide (v.s = name)) eg43 (cap := c1) (hN.vars.keep o) hln (fun v hv W' o' => clo43 (o'.blk h0 (by simp))))
  obtain ⟨fo, hfo⟩ : ∃ fo, vars.find? (fun v => decide (v.s = name)) = fo := ⟨_, rfl⟩
  rw [hfo] at hg
  rw [hfo]
  simp only [hfo] at C42
  clear hfo
  rw [fst_Vr] at C42
  have HG1 := Lib.hid hg.1
  have HG2 := Lib.hid hg.2
  obtain ⟨q, hq⟩ : ∃ q, fo.isSome = q := ⟨_, rfl⟩
  obtain ⟨vd, hvd⟩ : ∃ vd, fo.getD default = vd := ⟨_, rfl⟩
  rw [hq, hvd]
  rw [hq, hvd] at C42
  rw [hvd] at HG1 HG2
  clear hq hvd hg
  obtain ⟨xp, xs, xk, xA, xcap, xl⟩ := vd
  have D44 := Lib.hid (fun W (o : Only [] w W) => known_any (B0 := B0) (k := xk) (A := xA) (cap := xcap) (l := xl) q (Nat.le_trans hB o.size) (HG1.out.keep o) HG2.out)
  obtain ⟨pr, hpr⟩ : ∃ pr, (if q = true then ((Tx.mk xk xA xcap xl).tr, (0 : Int)) else (noT, 10)) = pr := ⟨_, rfl⟩
  rw [hpr] at D44
  show Calls Tryd.prog 30 #[.string name, .agg #[.slice A1 vars.length c1, .slice A2 ports.length c2, .bool bag, .slice A3 of.length c3]] w fun r w' => RK B0 w (if q = true then ((Tx.mk xk xA xcap xl).tr, (0 : Int)) else (noT, 10)) r w'
  rw [hpr]
  clear hpr HG1 HG2 hok
  have C42b := Lib.hid (show ∀ W, Only [] w W → ∀ q0, Blk W q0 9 #[.string name] → Calls Tryd.prog 42 #[.slice A1 vars.length c1, .func (.func 43) #[] #[.pointer (some ⟨q0, 0, none⟩)]] W fun r w' => r = .returned (.tuple #[.agg #[.string xp, .string xs, .int .i64 xk, .slice xA xl.length xcap], .bool q]) ∧ Only [] W w' from fun W o q0 h0 => C42.out W o q0 h0)
  clear C42
  obtain ⟨n1, hn1⟩ : ∃ n1, vars.length = n1 := ⟨_, rfl⟩
  obtain ⟨n2, hn2⟩ : ∃ n2, ports.length = n2 := ⟨_, rfl⟩
  obtain ⟨n3, hn3⟩ : ∃ n3, of.length = n3 := ⟨_, rfl⟩
  rw [hn1, hn2, hn3]
  rw [hn1] at C42b
  clear hn1 hn2 hn3 hln
  have h0 := Blk.new (w) 9 #[.string name]
  try simp only [World.size_alloc] at h0
  have h1 := Blk.new ((w).alloc (.cells #[.string name] 9)) 40 #[.slice A1 n1 c1, .slice A2 n2 c2, .bool bag, .slice A3 n3 c3]
  try simp only [World.size_alloc] at h1
  have h2 := Blk.new (((w).alloc (.cells #[.string name] 9)).alloc (.cells #[.slice A1 n1 c1, .slice A2 n2 c2, .bool bag, .slice A3 n3 c3] 40)) 34 #[.int .i64 0, .slice none 0 0]
  try simp only [World.size_alloc] at h2
  have S00 := Lib.hid (show Blk ((((w).alloc (.cells #[.string name] 9)).alloc (.cells #[.slice A1 n1 c1, .slice A2 n2 c2, .bool bag, .slice A3 n3 c3] 40)).alloc (.cells #[.int .i64 0, .slice none 0 0] 34)) (w.heap.size) 9 #[.string name] from (Blk.alloc (Blk.alloc h0 _) _))
  have N0 := Lib.hid (show Blk ((((w).alloc (.cells #[.string name] 9)).alloc (.cells #[.slice A1 n1 c1, .slice A2 n2 c2, .bool bag, .slice A3 n3 c3] 40)).alloc (.cells #[.int .i64 0, .slice none 0 0] 34)) (w.heap.size + 1) 40 #[.slice A1 n1 c1, .slice A2 n2 c2, .bool bag, .slice A3 n3 c3] from (Blk.alloc h1 _))
  have R0 := Lib.hid (show Blk ((((w).alloc (.cells #[.string name] 9)).alloc (.cells #[.slice A1 n1 c1, .slice A2 n2 c2, .bool bag, .slice A3 n3 c3] 40)).alloc (.cells #[.int .i64 0, .slice none 0 0] 34)) (w.heap.size + 1 + 1) 34 #[.int .i64 0, .slice none 0 0] from h2)
  have O0 := Lib.hid (show Only [] w ((((w).alloc (.cells #[.string name] 9)).alloc (.cells #[.slice A1 n1 c1, .slice A2 n2 c2, .bool bag, .slice A3 n3 c3] 40)).alloc (.cells #[.int .i64 0, .slice none 0 0] 34)) from (((Only.refl [] w).alloc _).alloc _).alloc _)
  have HB0 := Lib.hid hB
  clear h0 h1 h2 hB hN
  obtain ⟨b0, b1, b2, b3, bl⟩ := N0.out.facts4
  go_enter Tryd.func30, Tryd.ntmps30
  go_wp2_with (fail)
  refine (C42b.out _ O0.out _ S00.out).mono ?_
  rintro r w1 ⟨rfl, o1⟩
  have O1 := Lib.hid (O0.out.trans o1 (by simp))
  have R1 := Lib.hid (o1.blk R0.out (by simp))
  have O2 := Lib.hid (show Only [] w1 (w1.alloc (.cells #[.string xp, .string xs, .int .i64 xk, .slice xA xl.length xcap] 54)) from (Only.refl _ _).alloc _)
  have E2 := Blk.new w1 54 #[.string xp, .string xs, .int .i64 xk, .slice xA xl.length xcap]
  obtain ⟨x0, x1, x2, x3, xlt⟩ := E2.facts4
  clear o1 b0 b1 b2 b3 bl E2
  go_wp2_with (fail)
  refine (D44.out _ (O1.out.trans O2.out (by simp))).mono ?_
  rintro r w3 ⟨yk, yA, ycap, yl, rfl, hc, o3⟩
  have O3 := Lib.hid ((O1.out.trans O2.out (by simp)).trans o3 (by simp))
  have R3 := Lib.hid ((O2.out.trans o3 (by simp)).blk R1.out (by simp))
  have HC := Lib.hid (hc.low (B' := w.heap.size + 1 + 1 + 1) (by have := R1.out.lt; have := O2.out.size; omega))
  clear hc o3 x0 x1 x2 x3 xlt
  obtain ⟨r0, r1, rl⟩ := R3.out.facts2
  have g0 := R3.out.frozen 0
  have g1 := R3.out.frozen 1
  go_wp2_with (fail)
  have hb5 := (R3.out.set_ 0 (.int .i64 yk)).set_ 1 (.slice yA yl.length ycap)
  obtain ⟨e0, e1, -⟩ := Blk.facts2 (a := .int .i64 yk) (b := .slice yA yl.length ycap) hb5
  refine bodyPost_ret (v := .tuple #[.agg #[.int .i64 yk, .slice yA yl.length ycap], .int .i64 pr.2]) (by simp [results, Tryd.results30, go_sem, e0, e1]) rfl ?_
  clear e0 e1 hb5
  have o7 : Only [w.heap.size + 1 + 1] w3 _ := ((Only.refl _ w3).setCell (p := ⟨w.heap.size + 1 + 1, 0, none⟩) (.inl (by simp)) (.int .i64 yk)).setCell (p := ⟨w.heap.size + 1 + 1, 1, none⟩) (.inl (by simp)) (.slice yA yl.length ycap)
  exact ⟨yk, yA, ycap, yl, rfl, (HC.out.only o7 (by have := HB0.out; simp; omega)).low (by omega), O3.out.trans o7 (fun b hb => .inr (by simp at hb; omega))⟩
set_option maxHeartbeats 4000000 in
theorem other_any {B0 : Nat} {A1 : Option Addr} {c1 : Nat} {vars : List Vr} {A2 : Option Addr} {c2 : Nat} {ports : List Pr} {bag : Bool} {A3 : Option Addr} {c3 : Nat} {of : List Vr} {part name : ByteArray} {w : World} (hB : B0 ≤ w.heap.size) (hN : LiesN w A1 vars A2 ports A3 of) (hok : ∀ v ∈ of, v.t.tr.ok 3 = true) (hln : of.length ≤ 1000000) :
    Calls Tryd.prog 31 #[.string part, .string name, .agg #[.slice A1 vars.length c1, .slice A2 ports.length c2, .bool bag, .slice A3 of.length c3]] w fun r w' => RK B0 w (ofK ⟨vars.map Vr.tr, ports.map Pr.tr, bag, of.map Vr.tr⟩ part name) r w' := by
  rw [ofK_of]
  have hg := got_Vr hN.of hok (fun v => decide (v.p = part) && decide (v.s = name))
  have C42 := Lib.hid (fun W (o : Only [] w W) q0 (h0 : Blk W q0 9 #[.string part]) q1 (h1 : Blk W q1 9 #[.string name]) => firstVr 45 #[.pointer (some ⟨q0, 0, none⟩), .pointer (some ⟨q1, 0, none⟩)] (fun v => decide (v.p = part) && decide (v.s = name)) eg45 (cap := c3) (hN.of.keep o) hln (fun v hv W' o' => clo45 (o'.blk h0 (by simp)) (o'.blk h1 (by simp))))
  obtain ⟨fo, hfo⟩ : ∃ fo, of.find? (fun v => decide (v.p = part) && decide (v.s = name)) = fo := ⟨_, rfl⟩
  rw [hfo] at hg
  rw [hfo]
  simp only [hfo] at C42
  clear hfo
  rw [fst_Vr] at C42
  have HG1 := Lib.hid hg.1
  have HG2 := Lib.hid hg.2
  obtain ⟨q, hq⟩ : ∃ q, fo.isSome = q := ⟨_, rfl⟩
  obtain ⟨vd, hvd⟩ : ∃ vd, fo.getD default = vd := ⟨_, rfl⟩
  rw [hq, hvd]
  rw [hq, hvd] at C42
  rw [hvd] at HG1 HG2
  clear hq hvd hg
  obtain ⟨xp, xs, xk, xA, xcap, xl⟩ := vd
  have D44 := Lib.hid (fun W (o : Only [] w W) => known_any (B0 := B0) (k := xk) (A := xA) (cap := xcap) (l := xl) q (Nat.le_trans hB o.size) (HG1.out.keep o) HG2.out)
  obtain ⟨pr, hpr⟩ : ∃ pr, (if q = true then ((Tx.mk xk xA xcap xl).tr, (0 : Int)) else (noT, 10)) = pr := ⟨_, rfl⟩
  rw [hpr] at D44
  show Calls Tryd.prog 31 #[.string part, .string name, .agg #[.slice A1 vars.length c1, .slice A2 ports.length c2, .bool bag, .slice A3 of.length c3]] w fun r w' => RK B0 w (if q = true then ((Tx.mk xk xA xcap xl).tr, (0 : Int)) else (noT, 10)) r w'
  rw [hpr]
  clear hpr HG1 HG2 hok
  have C42b := Lib.hid (show ∀ W, Only [] w W → ∀ q0 q1, Blk W q0 9 #[.string part] → Blk W q1 9 #[.string name] → Calls Tryd.prog 42 #[.slice A3 of.length c3, .func (.func 45) #[] #[.pointer (some ⟨q0, 0, none⟩), .pointer (some ⟨q1, 0, none⟩)]] W fun r w' => r = .returned (.tuple #[.agg #[.string xp, .string xs, .int .i64 xk, .slice xA xl.length xcap], .bool q]) ∧ Only [] W w' from fun W o q0 q1 h0 h1 => C42.out W o q0 h0 q1 h1)
  clear C42
  obtain ⟨n1, hn1⟩ : ∃ n1, vars.length = n1 := ⟨_, rfl⟩
  obtain ⟨n2, hn2⟩ : ∃ n2, ports.length = n2 := ⟨_, rfl⟩
  obtain ⟨n3, hn3⟩ : ∃ n3, of.length = n3 := ⟨_, rfl⟩
  rw [hn1, hn2, hn3]
  rw [hn3] at C42b
  clear hn1 hn2 hn3 hln
  have h0 := Blk.new (w) 9 #[.string part]
  try simp only [World.size_alloc] at h0
  have h1 := Blk.new ((w).alloc (.cells #[.string part] 9)) 9 #[.string name]
  try simp only [World.size_alloc] at h1
  have h2 := Blk.new (((w).alloc (.cells #[.string part] 9)).alloc (.cells #[.string name] 9)) 40 #[.slice A1 n1 c1, .slice A2 n2 c2, .bool bag, .slice A3 n3 c3]
  try simp only [World.size_alloc] at h2
  have h3 := Blk.new ((((w).alloc (.cells #[.string part] 9)).alloc (.cells #[.string name] 9)).alloc (.cells #[.slice A1 n1 c1, .slice A2 n2 c2, .bool bag, .slice A3 n3 c3] 40)) 34 #[.int .i64 0, .slice none 0 0]
  try simp only [World.size_alloc] at h3
  have S00 := Lib.hid (show Blk (((((w).alloc (.cells #[.string part] 9)).alloc (.cells #[.string name] 9)).alloc (.cells #[.slice A1 n1 c1, .slice A2 n2 c2, .bool bag, .slice A3 n3 c3] 40)).alloc (.cells #[.int .i64 0, .slice none 0 0] 34)) (w.heap.size) 9 #[.string part] from (Blk.alloc (Blk.alloc (Blk.alloc h0 _) _) _))
  have S10 := Lib.hid (show Blk (((((w).alloc (.cells #[.string part] 9)).alloc (.cells #[.string name] 9)).alloc (.cells #[.slice A1 n1 c1, .slice A2 n2 c2, .bool bag, .slice A3 n3 c3] 40)).alloc (.cells #[.int .i64 0, .slice none 0 0] 34)) (w.heap.size + 1) 9 #[.string name] from (Blk.alloc (Blk.alloc h1 _) _))
  have N0 := Lib.hid (show Blk (((((w).alloc (.cells #[.string part] 9)).alloc (.cells #[.string name] 9)).alloc (.cells #[.slice A1 n1 c1, .slice A2 n2 c2, .bool bag, .slice A3 n3 c3] 40)).alloc (.cells #[.int .i64 0, .slice none 0 0] 34)) (w.heap.size + 1 + 1) 40 #[.slice A1 n1 c1, .slice A2 n2 c2, .bool bag, .slice A3 n3 c3] from (Blk.alloc h2 _))
  have R0 := Lib.hid (show Blk (((((w).alloc (.cells #[.string part] 9)).alloc (.cells #[.string name] 9)).alloc (.cells #[.slice A1 n1 c1, .slice A2 n2 c2, .bool bag, .slice A3 n3 c3] 40)).alloc (.cells #[.int .i64 0, .slice none 0 0] 34)) (w.heap.size + 1 + 1 + 1) 34 #[.int .i64 0, .slice none 0 0] from h3)
  have O0 := Lib.hid (show Only [] w (((((w).alloc (.cells #[.string part] 9)).alloc (.cells #[.string name] 9)).alloc (.cells #[.slice A1 n1 c1, .slice A2 n2 c2, .bool bag, .slice A3 n3 c3] 40)).alloc (.cells #[.int .i64 0, .slice none 0 0] 34)) from ((((Only.refl [] w).alloc _).alloc _).alloc _).alloc _)
  have HB0 := Lib.hid hB
  clear h0 h1 h2 h3 hB hN
  obtain ⟨b0, b1, b2, b3, bl⟩ := N0.out.facts4
  go_enter Tryd.func31, Tryd.ntmps31
  go_wp2_with (fail)
  refine (C42b.out _ O0.out _ _ S00.out S10.out).mono ?_
  rintro r w1 ⟨rfl, o1⟩
  have O1 := Lib.hid (O0.out.trans o1 (by simp))
  have R1 := Lib.hid (o1.blk R0.out (by simp))
  have O2 := Lib.hid (show Only [] w1 (w1.alloc (.cells #[.string xp, .string xs, .int .i64 xk, .slice xA xl.length xcap] 54)) from (Only.refl _ _).alloc _)
  have E2 := Blk.new w1 54 #[.string xp, .string xs, .int .i64 xk, .slice xA xl.length xcap]
  obtain ⟨x0, x1, x2, x3, xlt⟩ := E2.facts4
  clear o1 b0 b1 b2 b3 bl E2
  go_wp2_with (fail)
  refine (D44.out _ (O1.out.trans O2.out (by simp))).mono ?_
  rintro r w3 ⟨yk, yA, ycap, yl, rfl, hc, o3⟩
  have O3 := Lib.hid ((O1.out.trans O2.out (by simp)).trans o3 (by simp))
  have R3 := Lib.hid ((O2.out.trans o3 (by simp)).blk R1.out (by simp))
  have HC := Lib.hid (hc.low (B' := w.heap.size + 1 + 1 + 1 + 1) (by have := R1.out.lt; have := O2.out.size; omega))
  clear hc o3 x0 x1 x2 x3 xlt
  obtain ⟨r0, r1, rl⟩ := R3.out.facts2
  have g0 := R3.out.frozen 0
  have g1 := R3.out.frozen 1
  go_wp2_with (fail)
  have hb5 := (R3.out.set_ 0 (.int .i64 yk)).set_ 1 (.slice yA yl.length ycap)
  obtain ⟨e0, e1, -⟩ := Blk.facts2 (a := .int .i64 yk) (b := .slice yA yl.length ycap) hb5
  refine bodyPost_ret (v := .tuple #[.agg #[.int .i64 yk, .slice yA yl.length ycap], .int .i64 pr.2]) (by simp [results, Tryd.results31, go_sem, e0, e1]) rfl ?_
  clear e0 e1 hb5
  have o7 : Only [w.heap.size + 1 + 1 + 1] w3 _ := ((Only.refl _ w3).setCell (p := ⟨w.heap.size + 1 + 1 + 1, 0, none⟩) (.inl (by simp)) (.int .i64 yk)).setCell (p := ⟨w.heap.size + 1 + 1 + 1, 1, none⟩) (.inl (by simp)) (.slice yA yl.length ycap)
  exact ⟨yk, yA, ycap, yl, rfl, (HC.out.only o7 (by have := HB0.out; simp; omega)).low (by omega), O3.out.trans o7 (fun b hb => .inr (by simp at hb; omega))⟩
set_option maxHeartbeats 4000000 in
theorem port_any {B0 : Nat} {A1 : Option Addr} {c1 : Nat} {vars : List Vr} {A2 : Option Addr} {c2 : Nat} {ports : List Pr} {bag : Bool} {A3 : Option Addr} {c3 : Nat} {of : List Vr} {name : ByteArray} {w : World} (hB : B0 ≤ w.heap.size) (hN : LiesN w A1 vars A2 ports A3 of) (hok : ∀ v ∈ ports, v.t.tr.ok 3 = true) (hln : ports.length ≤ 1000000) :
    Calls Tryd.prog 46 #[.string name, .agg #[.slice A1 vars.length c1, .slice A2 ports.length c2, .bool bag, .slice A3 of.length c3]] w fun r w' => RK B0 w (portR ⟨vars.map Vr.tr, ports.map Pr.tr, bag, of.map Vr.tr⟩ name) r w' := by
  rw [portR_of]
  have hg := got_Pr hN.ports hok (fun v => decide (v.s = name))
  have C42 := Lib.hid (fun W (o : Only [] w W) q0 (h0 : Blk W q0 9 #[.string name]) => firstPr 55 #[.pointer (some ⟨q0, 0, none⟩)] (fun v => decide (v.s = name)) eg55 (cap := c2) (hN.ports.keep o) hln (fun v hv W' o' => clo55 (o'.blk h0 (by simp))))
  obtain ⟨fo, hfo⟩ : ∃ fo, ports.find? (fun v => decide (v.s = name)) = fo := ⟨_, rfl⟩
  rw [hfo] at hg
  rw [hfo]
  simp only [hfo] at C42
  clear hfo
  rw [fst_Pr] at C42
  have HG1 := Lib.hid hg.1
  have HG2 := Lib.hid hg.2
  obtain ⟨q, hq⟩ : ∃ q, fo.isSome = q := ⟨_, rfl⟩
  obtain ⟨vd, hvd⟩ : ∃ vd, fo.getD default = vd := ⟨_, rfl⟩
  rw [hq, hvd]
  rw [hq, hvd] at C42
  rw [hvd] at HG1 HG2
  clear hq hvd hg
  obtain ⟨xs, xk, xA, xcap, xl⟩ := vd
  have D44 := Lib.hid (fun W (o : Only [] w W) => known_any (B0 := B0) (k := xk) (A := xA) (cap := xcap) (l := xl) q (Nat.le_trans hB o.size) (HG1.out.keep o) HG2.out)
  obtain ⟨pr, hpr⟩ : ∃ pr, (if q = true then ((Tx.mk xk xA xcap xl).tr, (0 : Int)) else (noT, 10)) = pr := ⟨_, rfl⟩
  rw [hpr] at D44
  show Calls Tryd.prog 46 #[.string name, .agg #[.slice A1 vars.length c1, .slice A2 ports.length c2, .bool bag, .slice A3 of.length c3]] w fun r w' => RK B0 w (if bag = true then (if q = true then ((Tx.mk xk xA xcap xl).tr, (0 : Int)) else (noT, 10)) else (noT, 10)) r w'
  rw [hpr]
  clear hpr HG1 HG2 hok
  have C42b := Lib.hid (show ∀ W, Only [] w W → ∀ q0, Blk W q0 9 #[.string name] → Calls Tryd.prog 54 #[.slice A2 ports.length c2, .func (.func 55) #[] #[.pointer (some ⟨q0, 0, none⟩)]] W fun r w' => r = .returned (.tuple #[.agg #[.string xs, .int .i64 xk, .slice xA xl.length xcap], .bool q]) ∧ Only [] W w' from fun W o q0 h0 => C42.out W o q0 h0)
  clear C42
  obtain ⟨n1, hn1⟩ : ∃ n1, vars.length = n1 := ⟨_, rfl⟩
  obtain ⟨n2, hn2⟩ : ∃ n2, ports.length = n2 := ⟨_, rfl⟩
  obtain ⟨n3, hn3⟩ : ∃ n3, of.length = n3 := ⟨_, rfl⟩
  rw [hn1, hn2, hn3]
  rw [hn2] at C42b
  clear hn1 hn2 hn3 hln
  have h0 := Blk.new (w) 9 #[.string name]
  try simp only [World.size_alloc] at h0
  have h1 := Blk.new ((w).alloc (.cells #[.string name] 9)) 40 #[.slice A1 n1 c1, .slice A2 n2 c2, .bool bag, .slice A3 n3 c3]
  try simp only [World.size_alloc] at h1
  have h2 := Blk.new (((w).alloc (.cells #[.string name] 9)).alloc (.cells #[.slice A1 n1 c1, .slice A2 n2 c2, .bool bag, .slice A3 n3 c3] 40)) 34 #[.int .i64 0, .slice none 0 0]
  try simp only [World.size_alloc] at h2
  have S00 := Lib.hid (show Blk ((((w).alloc (.cells #[.string name] 9)).alloc (.cells #[.slice A1 n1 c1, .slice A2 n2 c2, .bool bag, .slice A3 n3 c3] 40)).alloc (.cells #[.int .i64 0, .slice none 0 0] 34)) (w.heap.size) 9 #[.string name] from (Blk.alloc (Blk.alloc h0 _) _))
  have N0 := Lib.hid (show Blk ((((w).alloc (.cells #[.string name] 9)).alloc (.cells #[.slice A1 n1 c1, .slice A2 n2 c2, .bool bag, .slice A3 n3 c3] 40)).alloc (.cells #[.int .i64 0, .slice none 0 0] 34)) (w.heap.size + 1) 40 #[.slice A1 n1 c1, .slice A2 n2 c2, .bool bag, .slice A3 n3 c3] from (Blk.alloc h1 _))
  have R0 := Lib.hid (show Blk ((((w).alloc (.cells #[.string name] 9)).alloc (.cells #[.slice A1 n1 c1, .slice A2 n2 c2, .bool bag, .slice A3 n3 c3] 40)).alloc (.cells #[.int .i64 0, .slice none 0 0] 34)) (w.heap.size + 1 + 1) 34 #[.int .i64 0, .slice none 0 0] from h2)
  have O0 := Lib.hid (show Only [] w ((((w).alloc (.cells #[.string name] 9)).alloc (.cells #[.slice A1 n1 c1, .slice A2 n2 c2, .bool bag, .slice A3 n3 c3] 40)).alloc (.cells #[.int .i64 0, .slice none 0 0] 34)) from (((Only.refl [] w).alloc _).alloc _).alloc _)
  have HB0 := Lib.hid hB
  clear h0 h1 h2 hB hN
  obtain ⟨b0, b1, b2, b3, bl⟩ := N0.out.facts4
  cases bag with
  | false =>
    obtain ⟨r0, r1, rl⟩ := R0.out.facts2
    have g0 := R0.out.frozen 0
    have g1 := R0.out.frozen 1
    go_enter Tryd.func46, Tryd.ntmps46
    go_wp2_with (fail)
    refine bodyPost_ret (v := .tuple #[.agg #[.int .i64 0, .slice none 0 0], .int .i64 10]) (by simp [results, Tryd.results46, go_sem, r0, r1]) rfl ?_
    exact ⟨0, none, 0, [], rfl, none_TK _ _ _, O0.out⟩
  | true =>
    go_enter Tryd.func46, Tryd.ntmps46
    go_wp2_with (fail)
    refine (C42b.out _ O0.out _ S00.out).mono ?_
    rintro r w1 ⟨rfl, o1⟩
    have O1 := Lib.hid (O0.out.trans o1 (by simp))
    have R1 := Lib.hid (o1.blk R0.out (by simp))
    have O2 := Lib.hid (show Only [] w1 (w1.alloc (.cells #[.string xs, .int .i64 xk, .slice xA xl.length xcap] 68)) from (Only.refl _ _).alloc _)
    have E2 := Blk.new w1 68 #[.string xs, .int .i64 xk, .slice xA xl.length xcap]
    obtain ⟨x0, x1, x2, xlt⟩ := E2.facts3
    clear o1 b0 b1 b2 b3 bl E2
    go_wp2_with (fail)
    refine (D44.out _ (O1.out.trans O2.out (by simp))).mono ?_
    rintro r w3 ⟨yk, yA, ycap, yl, rfl, hc, o3⟩
    have O3 := Lib.hid ((O1.out.trans O2.out (by simp)).trans o3 (by simp))
    have R3 := Lib.hid ((O2.out.trans o3 (by simp)).blk R1.out (by simp))
    have HC := Lib.hid (hc.low (B' := w.heap.size + 1 + 1 + 1) (by have := R1.out.lt; have := O2.out.size; omega))
    clear hc o3 x0 x1 x2 xlt
    obtain ⟨r0, r1, rl⟩ := R3.out.facts2
    have g0 := R3.out.frozen 0
    have g1 := R3.out.frozen 1
    go_wp2_with (fail)
    have hb5 := (R3.out.set_ 0 (.int .i64 yk)).set_ 1 (.slice yA yl.length ycap)
    obtain ⟨e0, e1, -⟩ := Blk.facts2 (a := .int .i64 yk) (b := .slice yA yl.length ycap) hb5
    refine bodyPost_ret (v := .tuple #[.agg #[.int .i64 yk, .slice yA yl.length ycap], .int .i64 pr.2]) (by simp [results, Tryd.results46, go_sem, e0, e1]) rfl ?_
    clear e0 e1 hb5
    have o7 : Only [w.heap.size + 1 + 1] w3 _ := ((Only.refl _ w3).setCell (p := ⟨w.heap.size + 1 + 1, 0, none⟩) (.inl (by simp)) (.int .i64 yk)).setCell (p := ⟨w.heap.size + 1 + 1, 1, none⟩) (.inl (by simp)) (.slice yA yl.length ycap)
    exact ⟨yk, yA, ycap, yl, rfl, (HC.out.only o7 (by have := HB0.out; simp; omega)).low (by omega), O3.out.trans o7 (fun b hb => .inr (by simp at hb; omega))⟩
end Go.Proofs.YtjhpckeoackblaaDoor
