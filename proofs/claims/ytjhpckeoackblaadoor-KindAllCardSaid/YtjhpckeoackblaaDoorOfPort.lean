/- ofPort. -/
import Derived.Test.YtjhpckeoackblaaDoorKinds
namespace Go.Proofs.YtjhpckeoackblaaDoor
open Go.RowKit Go.Kx
open Go.Val (Tt)
set_option maxRecDepth 100000
def optK (po : Option Tt) (f : Tt → Tt × Int) : Tt × Int := match po with | none => (noT, 10) | some t => f t
set_option maxHeartbeats 4000000 in
theorem ofport7 {B0 B : Nat} {n : Int} {nm sb : ByteArray} {A : Option Addr} {cap : Nat} {args : List Ex} {AA : Option Addr} {ac : Nat} {es : List Tx} {A1 : Option Addr} {c1 : Nat} {vars : List Vr} {A2 : Option Addr} {c2 : Nat} {ports : List Pr} {bag : Bool} {A3 : Option Addr} {c3 : Nat} {of : List Vr} {w : World} (_h : AR B0 B w AA es) (hB0 : B0 ≤ w.heap.size) (hB : B ≤ w.heap.size) (hN : LiesN w A1 vars A2 ports A3 of) (hok : ∀ v ∈ ports, v.t.tr.ok 3 = true) (hln : ports.length ≤ 1000000) :
    Calls Tryd.prog 32 #[.agg #[.int .i64 7, .int .i64 n, .string nm, .string sb, .slice A args.length cap], .slice AA es.length ac, .agg #[.slice A1 vars.length c1, .slice A2 ports.length c2, .bool bag, .slice A3 of.length c3]] w fun r w' => RG B0 B w (ofPortK ⟨vars.map Vr.tr, ports.map Pr.tr, bag, of.map Vr.tr⟩ 7 nm (es.map Tx.tr)) r w' := by
  have hs : ofPortK ⟨vars.map Vr.tr, ports.map Pr.tr, bag, of.map Vr.tr⟩ 7 nm (es.map Tx.tr) = optK (portK ⟨vars.map Vr.tr, ports.map Pr.tr, bag, of.map Vr.tr⟩ nm) (fun t => (inT, 0)) := by unfold ofPortK optK; split <;> simp_all
  rw [hs]
  clear hs
  have C46 := Lib.hid (fun W (o : Only [] w W) => port_any (B0 := B0) (c1 := c1) (c2 := c2) (bag := bag) (c3 := c3) (name := nm) (Nat.le_trans hB0 o.size) (hN.keep o) hok hln)
  have HPR := Lib.hid (show portR ⟨vars.map Vr.tr, ports.map Pr.tr, bag, of.map Vr.tr⟩ nm = match portK ⟨vars.map Vr.tr, ports.map Pr.tr, bag, of.map Vr.tr⟩ nm with | none => (noT, 10) | some t => (t, 0) by unfold portR; cases portK ⟨vars.map Vr.tr, ports.map Pr.tr, bag, of.map Vr.tr⟩ nm <;> rfl)
  have HPO := Lib.hid (show ∀ t, portK ⟨vars.map Vr.tr, ports.map Pr.tr, bag, of.map Vr.tr⟩ nm = some t → True from fun _ _ => trivial)
  obtain ⟨po, hpo⟩ : ∃ po, portK ⟨vars.map Vr.tr, ports.map Pr.tr, bag, of.map Vr.tr⟩ nm = po := ⟨_, rfl⟩
  rw [hpo] at HPR
  rw [hpo]
  simp only [HPR.out] at C46
  clear hpo HPR HPO hok hln
  obtain ⟨n1, hn1⟩ : ∃ n1, vars.length = n1 := ⟨_, rfl⟩
  obtain ⟨n2, hn2⟩ : ∃ n2, ports.length = n2 := ⟨_, rfl⟩
  obtain ⟨n3, hn3⟩ : ∃ n3, of.length = n3 := ⟨_, rfl⟩
  rw [hn1, hn2, hn3] at C46 ⊢
  clear hn1 hn2 hn3
  obtain ⟨ne, hne⟩ : ∃ ne, args.length = ne := ⟨_, rfl⟩
  rw [hne]
  clear hne
  have h0 := Blk.new (w) 24 #[.int .i64 7, .int .i64 n, .string nm, .string sb, .slice A ne cap]
  try simp only [World.size_alloc] at h0
  have h1 := Blk.new ((w).alloc (.cells #[.int .i64 7, .int .i64 n, .string nm, .string sb, .slice A ne cap] 24)) 40 #[.slice A1 n1 c1, .slice A2 n2 c2, .bool bag, .slice A3 n3 c3]
  try simp only [World.size_alloc] at h1
  have h2 := Blk.new (((w).alloc (.cells #[.int .i64 7, .int .i64 n, .string nm, .string sb, .slice A ne cap] 24)).alloc (.cells #[.slice A1 n1 c1, .slice A2 n2 c2, .bool bag, .slice A3 n3 c3] 40)) 34 #[.int .i64 0, .slice none 0 0]
  try simp only [World.size_alloc] at h2
  have X0 := Lib.hid (show Blk ((((w).alloc (.cells #[.int .i64 7, .int .i64 n, .string nm, .string sb, .slice A ne cap] 24)).alloc (.cells #[.slice A1 n1 c1, .slice A2 n2 c2, .bool bag, .slice A3 n3 c3] 40)).alloc (.cells #[.int .i64 0, .slice none 0 0] 34)) (w.heap.size) 24 #[.int .i64 7, .int .i64 n, .string nm, .string sb, .slice A ne cap] from (Blk.alloc (Blk.alloc h0 _) _))
  have N0 := Lib.hid (show Blk ((((w).alloc (.cells #[.int .i64 7, .int .i64 n, .string nm, .string sb, .slice A ne cap] 24)).alloc (.cells #[.slice A1 n1 c1, .slice A2 n2 c2, .bool bag, .slice A3 n3 c3] 40)).alloc (.cells #[.int .i64 0, .slice none 0 0] 34)) (w.heap.size + 1) 40 #[.slice A1 n1 c1, .slice A2 n2 c2, .bool bag, .slice A3 n3 c3] from (Blk.alloc h1 _))
  have R0 := Lib.hid (show Blk ((((w).alloc (.cells #[.int .i64 7, .int .i64 n, .string nm, .string sb, .slice A ne cap] 24)).alloc (.cells #[.slice A1 n1 c1, .slice A2 n2 c2, .bool bag, .slice A3 n3 c3] 40)).alloc (.cells #[.int .i64 0, .slice none 0 0] 34)) (w.heap.size + 1 + 1) 34 #[.int .i64 0, .slice none 0 0] from h2)
  have O0 := Lib.hid (show Only [] w ((((w).alloc (.cells #[.int .i64 7, .int .i64 n, .string nm, .string sb, .slice A ne cap] 24)).alloc (.cells #[.slice A1 n1 c1, .slice A2 n2 c2, .bool bag, .slice A3 n3 c3] 40)).alloc (.cells #[.int .i64 0, .slice none 0 0] 34)) from (((Only.refl [] w).alloc _).alloc _).alloc _)
  have HB := Lib.hid (And.intro hB0 hB)
  clear h0 h1 h2 hB0 hB hN
  obtain ⟨x0, x1, x2, x3, x4, xl⟩ := X0.out.facts5
  obtain ⟨b0, b1, b2, b3, bl⟩ := N0.out.facts4
  obtain ⟨pp, hpp⟩ : ∃ pp : Tt × Int, optK po (fun t => (inT, 0)) = pp := ⟨_, rfl⟩
  rw [hpp]
  have HPP := Lib.hid hpp
  clear hpp
  go_enter Tryd.func32, Tryd.ntmps32
  go_wp2_with (fail)
  refine (C46.out _ O0.out).mono ?_
  rintro r w1 ⟨yk, yA, ycap, yl, rfl, hc, o1⟩
  have O1 := Lib.hid (O0.out.trans o1 (by simp))
  have R1 := Lib.hid (o1.blk R0.out (by simp))
  have X1 := Lib.hid (o1.blk X0.out (by simp))
  have HC1 := Lib.hid (hc.low (B' := w.heap.size + 1 + 1 + 1) (by simp))
  clear hc o1 x0 x1 x2 x3 x4 xl b0 b1 b2 b3 bl C46
  have O2 := Lib.hid (O1.out.alloc (.cells #[.int .i64 yk, .slice yA yl.length ycap] 34))
  have R2 := Lib.hid (Blk.alloc R1.out (.cells #[.int .i64 yk, .slice yA yl.length ycap] 34))
  have X2 := Lib.hid (Blk.alloc X1.out (.cells #[.int .i64 yk, .slice yA yl.length ycap] 34))
  have Y2 := Lib.hid (Blk.new w1 34 #[.int .i64 yk, .slice yA yl.length ycap])
  cases po with
  | none =>
    obtain ⟨r0, r1, rl⟩ := R2.out.facts2
    have g0 := R2.out.frozen 0
    have g1 := R2.out.frozen 1
    go_wp2_with (fail)
    have hb5 := (R2.out.set_ 0 (.int .i64 0)).set_ 1 (.slice none 0 0)
    obtain ⟨e0, e1, -⟩ := Blk.facts2 (a := .int .i64 0) (b := .slice none 0 0) hb5
    refine bodyPost_ret (v := .tuple #[.agg #[.int .i64 0, .slice none 0 0], .int .i64 10]) (by simp [results, Tryd.results32, go_sem, e0, e1]) rfl ?_
    clear e0 e1 hb5
    have o7 : Only [w.heap.size + 1 + 1] (w1.alloc (.cells #[.int .i64 yk, .slice yA yl.length ycap] 34)) _ := ((Only.refl _ (w1.alloc (.cells #[.int .i64 yk, .slice yA yl.length ycap] 34))).setCell (p := ⟨w.heap.size + 1 + 1, 0, none⟩) (.inl (by simp)) (.int .i64 0)).setCell (p := ⟨w.heap.size + 1 + 1, 1, none⟩) (.inl (by simp)) (.slice none 0 0)
    have hp : ((noT, 10) : Tt × Int) = pp := HPP.out
    subst hp
    exact ⟨0, none, 0, [], rfl, plain_TK _ _ 0 ⟨by omega, by omega⟩ _, O2.out.trans o7 (fun b hb => .inr (by simp at hb; omega))⟩
  | some t =>
    dsimp only at HC1
    generalize hw2 : w1.alloc (.cells #[.int .i64 yk, .slice yA yl.length ycap] 34) = w2 at O2 R2 X2 Y2
    have HW2 := Lib.hid hw2
    have HO12 := Lib.hid (show Only [] w1 w2 by rw [← hw2]; exact (Only.refl _ _).alloc _)
    clear hw2
    have HC2 := Lib.hid (HC1.out.keep HO12.out)
    have HYL := Lib.hid (show w.heap.size + 1 + 1 < w1.heap.size from R1.out.lt)
    obtain ⟨x0, x1, x2, x3, x4, xl⟩ := X1.out.facts5
    go_wp2_with (fail)
    rw [HW2.out]
    refine (plain_any 0 _).mono ?_
    rintro r w4 ⟨rfl, o4⟩
    have O4 := Lib.hid (O2.out.trans o4 (by simp))
    have R4 := Lib.hid (o4.blk R2.out (by simp))
    clear o4 x0 x1 x2 x3 x4 xl
    obtain ⟨r0, r1, rl⟩ := R4.out.facts2
    have g0 := R4.out.frozen 0
    have g1 := R4.out.frozen 1
    go_wp2_with (fail)
    have hb5 := (R4.out.set_ 0 (.int .i64 0)).set_ 1 (.slice none 0 0)
    obtain ⟨e0, e1, -⟩ := Blk.facts2 (a := .int .i64 0) (b := .slice none 0 0) hb5
    refine bodyPost_ret (v := .tuple #[.agg #[.int .i64 0, .slice none 0 0], .int .i64 0]) (by simp [results, Tryd.results32, go_sem, e0, e1]) rfl ?_
    clear e0 e1 hb5
    have o7 : Only [w.heap.size + 1 + 1] w4 _ := ((Only.refl _ w4).setCell (p := ⟨w.heap.size + 1 + 1, 0, none⟩) (.inl (by simp)) (.int .i64 0)).setCell (p := ⟨w.heap.size + 1 + 1, 1, none⟩) (.inl (by simp)) (.slice none 0 0)
    have hp : ((inT, 0) : Tt × Int) = pp := HPP.out
    skip
    subst hp
    exact ⟨0, none, 0, [], rfl, plain_TK _ _ 0 ⟨by omega, by omega⟩ _, O4.out.trans o7 (fun b hb => .inr (by simp at hb; omega))⟩
set_option maxHeartbeats 4000000 in
theorem ofport8 {B0 B : Nat} {n : Int} {nm sb : ByteArray} {A : Option Addr} {cap : Nat} {args : List Ex} {AA : Option Addr} {ac : Nat} {es : List Tx} {A1 : Option Addr} {c1 : Nat} {vars : List Vr} {A2 : Option Addr} {c2 : Nat} {ports : List Pr} {bag : Bool} {A3 : Option Addr} {c3 : Nat} {of : List Vr} {w : World} (_h : AR B0 B w AA es) (hB0 : B0 ≤ w.heap.size) (hB : B ≤ w.heap.size) (hN : LiesN w A1 vars A2 ports A3 of) (hok : ∀ v ∈ ports, v.t.tr.ok 3 = true) (hln : ports.length ≤ 1000000) :
    Calls Tryd.prog 32 #[.agg #[.int .i64 8, .int .i64 n, .string nm, .string sb, .slice A args.length cap], .slice AA es.length ac, .agg #[.slice A1 vars.length c1, .slice A2 ports.length c2, .bool bag, .slice A3 of.length c3]] w fun r w' => RG B0 B w (ofPortK ⟨vars.map Vr.tr, ports.map Pr.tr, bag, of.map Vr.tr⟩ 8 nm (es.map Tx.tr)) r w' := by
  have hs : ofPortK ⟨vars.map Vr.tr, ports.map Pr.tr, bag, of.map Vr.tr⟩ 8 nm (es.map Tx.tr) = optK (portK ⟨vars.map Vr.tr, ports.map Pr.tr, bag, of.map Vr.tr⟩ nm) (fun t => (boT, 0)) := by unfold ofPortK optK; split <;> simp_all
  rw [hs]
  clear hs
  have C46 := Lib.hid (fun W (o : Only [] w W) => port_any (B0 := B0) (c1 := c1) (c2 := c2) (bag := bag) (c3 := c3) (name := nm) (Nat.le_trans hB0 o.size) (hN.keep o) hok hln)
  have HPR := Lib.hid (show portR ⟨vars.map Vr.tr, ports.map Pr.tr, bag, of.map Vr.tr⟩ nm = match portK ⟨vars.map Vr.tr, ports.map Pr.tr, bag, of.map Vr.tr⟩ nm with | none => (noT, 10) | some t => (t, 0) by unfold portR; cases portK ⟨vars.map Vr.tr, ports.map Pr.tr, bag, of.map Vr.tr⟩ nm <;> rfl)
  have HPO := Lib.hid (show ∀ t, portK ⟨vars.map Vr.tr, ports.map Pr.tr, bag, of.map Vr.tr⟩ nm = some t → True from fun _ _ => trivial)
  obtain ⟨po, hpo⟩ : ∃ po, portK ⟨vars.map Vr.tr, ports.map Pr.tr, bag, of.map Vr.tr⟩ nm = po := ⟨_, rfl⟩
  rw [hpo] at HPR
  rw [hpo]
  simp only [HPR.out] at C46
  clear hpo HPR HPO hok hln
  obtain ⟨n1, hn1⟩ : ∃ n1, vars.length = n1 := ⟨_, rfl⟩
  obtain ⟨n2, hn2⟩ : ∃ n2, ports.length = n2 := ⟨_, rfl⟩
  obtain ⟨n3, hn3⟩ : ∃ n3, of.length = n3 := ⟨_, rfl⟩
  rw [hn1, hn2, hn3] at C46 ⊢
  clear hn1 hn2 hn3
  obtain ⟨ne, hne⟩ : ∃ ne, args.length = ne := ⟨_, rfl⟩
  rw [hne]
  clear hne
  have h0 := Blk.new (w) 24 #[.int .i64 8, .int .i64 n, .string nm, .string sb, .slice A ne cap]
  try simp only [World.size_alloc] at h0
  have h1 := Blk.new ((w).alloc (.cells #[.int .i64 8, .int .i64 n, .string nm, .string sb, .slice A ne cap] 24)) 40 #[.slice A1 n1 c1, .slice A2 n2 c2, .bool bag, .slice A3 n3 c3]
  try simp only [World.size_alloc] at h1
  have h2 := Blk.new (((w).alloc (.cells #[.int .i64 8, .int .i64 n, .string nm, .string sb, .slice A ne cap] 24)).alloc (.cells #[.slice A1 n1 c1, .slice A2 n2 c2, .bool bag, .slice A3 n3 c3] 40)) 34 #[.int .i64 0, .slice none 0 0]
  try simp only [World.size_alloc] at h2
  have X0 := Lib.hid (show Blk ((((w).alloc (.cells #[.int .i64 8, .int .i64 n, .string nm, .string sb, .slice A ne cap] 24)).alloc (.cells #[.slice A1 n1 c1, .slice A2 n2 c2, .bool bag, .slice A3 n3 c3] 40)).alloc (.cells #[.int .i64 0, .slice none 0 0] 34)) (w.heap.size) 24 #[.int .i64 8, .int .i64 n, .string nm, .string sb, .slice A ne cap] from (Blk.alloc (Blk.alloc h0 _) _))
  have N0 := Lib.hid (show Blk ((((w).alloc (.cells #[.int .i64 8, .int .i64 n, .string nm, .string sb, .slice A ne cap] 24)).alloc (.cells #[.slice A1 n1 c1, .slice A2 n2 c2, .bool bag, .slice A3 n3 c3] 40)).alloc (.cells #[.int .i64 0, .slice none 0 0] 34)) (w.heap.size + 1) 40 #[.slice A1 n1 c1, .slice A2 n2 c2, .bool bag, .slice A3 n3 c3] from (Blk.alloc h1 _))
  have R0 := Lib.hid (show Blk ((((w).alloc (.cells #[.int .i64 8, .int .i64 n, .string nm, .string sb, .slice A ne cap] 24)).alloc (.cells #[.slice A1 n1 c1, .slice A2 n2 c2, .bool bag, .slice A3 n3 c3] 40)).alloc (.cells #[.int .i64 0, .slice none 0 0] 34)) (w.heap.size + 1 + 1) 34 #[.int .i64 0, .slice none 0 0] from h2)
  have O0 := Lib.hid (show Only [] w ((((w).alloc (.cells #[.int .i64 8, .int .i64 n, .string nm, .string sb, .slice A ne cap] 24)).alloc (.cells #[.slice A1 n1 c1, .slice A2 n2 c2, .bool bag, .slice A3 n3 c3] 40)).alloc (.cells #[.int .i64 0, .slice none 0 0] 34)) from (((Only.refl [] w).alloc _).alloc _).alloc _)
  have HB := Lib.hid (And.intro hB0 hB)
  clear h0 h1 h2 hB0 hB hN
  obtain ⟨x0, x1, x2, x3, x4, xl⟩ := X0.out.facts5
  obtain ⟨b0, b1, b2, b3, bl⟩ := N0.out.facts4
  obtain ⟨pp, hpp⟩ : ∃ pp : Tt × Int, optK po (fun t => (boT, 0)) = pp := ⟨_, rfl⟩
  rw [hpp]
  have HPP := Lib.hid hpp
  clear hpp
  go_enter Tryd.func32, Tryd.ntmps32
  go_wp2_with (fail)
  refine (C46.out _ O0.out).mono ?_
  rintro r w1 ⟨yk, yA, ycap, yl, rfl, hc, o1⟩
  have O1 := Lib.hid (O0.out.trans o1 (by simp))
  have R1 := Lib.hid (o1.blk R0.out (by simp))
  have X1 := Lib.hid (o1.blk X0.out (by simp))
  have HC1 := Lib.hid (hc.low (B' := w.heap.size + 1 + 1 + 1) (by simp))
  clear hc o1 x0 x1 x2 x3 x4 xl b0 b1 b2 b3 bl C46
  have O2 := Lib.hid (O1.out.alloc (.cells #[.int .i64 yk, .slice yA yl.length ycap] 34))
  have R2 := Lib.hid (Blk.alloc R1.out (.cells #[.int .i64 yk, .slice yA yl.length ycap] 34))
  have X2 := Lib.hid (Blk.alloc X1.out (.cells #[.int .i64 yk, .slice yA yl.length ycap] 34))
  have Y2 := Lib.hid (Blk.new w1 34 #[.int .i64 yk, .slice yA yl.length ycap])
  cases po with
  | none =>
    obtain ⟨r0, r1, rl⟩ := R2.out.facts2
    have g0 := R2.out.frozen 0
    have g1 := R2.out.frozen 1
    go_wp2_with (fail)
    have hb5 := (R2.out.set_ 0 (.int .i64 0)).set_ 1 (.slice none 0 0)
    obtain ⟨e0, e1, -⟩ := Blk.facts2 (a := .int .i64 0) (b := .slice none 0 0) hb5
    refine bodyPost_ret (v := .tuple #[.agg #[.int .i64 0, .slice none 0 0], .int .i64 10]) (by simp [results, Tryd.results32, go_sem, e0, e1]) rfl ?_
    clear e0 e1 hb5
    have o7 : Only [w.heap.size + 1 + 1] (w1.alloc (.cells #[.int .i64 yk, .slice yA yl.length ycap] 34)) _ := ((Only.refl _ (w1.alloc (.cells #[.int .i64 yk, .slice yA yl.length ycap] 34))).setCell (p := ⟨w.heap.size + 1 + 1, 0, none⟩) (.inl (by simp)) (.int .i64 0)).setCell (p := ⟨w.heap.size + 1 + 1, 1, none⟩) (.inl (by simp)) (.slice none 0 0)
    have hp : ((noT, 10) : Tt × Int) = pp := HPP.out
    subst hp
    exact ⟨0, none, 0, [], rfl, plain_TK _ _ 0 ⟨by omega, by omega⟩ _, O2.out.trans o7 (fun b hb => .inr (by simp at hb; omega))⟩
  | some t =>
    dsimp only at HC1
    generalize hw2 : w1.alloc (.cells #[.int .i64 yk, .slice yA yl.length ycap] 34) = w2 at O2 R2 X2 Y2
    have HW2 := Lib.hid hw2
    have HO12 := Lib.hid (show Only [] w1 w2 by rw [← hw2]; exact (Only.refl _ _).alloc _)
    clear hw2
    have HC2 := Lib.hid (HC1.out.keep HO12.out)
    have HYL := Lib.hid (show w.heap.size + 1 + 1 < w1.heap.size from R1.out.lt)
    obtain ⟨x0, x1, x2, x3, x4, xl⟩ := X1.out.facts5
    go_wp2_with (fail)
    rw [HW2.out]
    refine (plain_any 1 _).mono ?_
    rintro r w4 ⟨rfl, o4⟩
    have O4 := Lib.hid (O2.out.trans o4 (by simp))
    have R4 := Lib.hid (o4.blk R2.out (by simp))
    clear o4 x0 x1 x2 x3 x4 xl
    obtain ⟨r0, r1, rl⟩ := R4.out.facts2
    have g0 := R4.out.frozen 0
    have g1 := R4.out.frozen 1
    go_wp2_with (fail)
    have hb5 := (R4.out.set_ 0 (.int .i64 1)).set_ 1 (.slice none 0 0)
    obtain ⟨e0, e1, -⟩ := Blk.facts2 (a := .int .i64 1) (b := .slice none 0 0) hb5
    refine bodyPost_ret (v := .tuple #[.agg #[.int .i64 1, .slice none 0 0], .int .i64 0]) (by simp [results, Tryd.results32, go_sem, e0, e1]) rfl ?_
    clear e0 e1 hb5
    have o7 : Only [w.heap.size + 1 + 1] w4 _ := ((Only.refl _ w4).setCell (p := ⟨w.heap.size + 1 + 1, 0, none⟩) (.inl (by simp)) (.int .i64 1)).setCell (p := ⟨w.heap.size + 1 + 1, 1, none⟩) (.inl (by simp)) (.slice none 0 0)
    have hp : ((boT, 0) : Tt × Int) = pp := HPP.out
    skip
    subst hp
    exact ⟨1, none, 0, [], rfl, plain_TK _ _ 1 ⟨by omega, by omega⟩ _, O4.out.trans o7 (fun b hb => .inr (by simp at hb; omega))⟩
set_option maxHeartbeats 4000000 in
theorem ofport9 {B0 B : Nat} {n : Int} {nm sb : ByteArray} {A : Option Addr} {cap : Nat} {args : List Ex} {AA : Option Addr} {ac : Nat} {es : List Tx} {A1 : Option Addr} {c1 : Nat} {vars : List Vr} {A2 : Option Addr} {c2 : Nat} {ports : List Pr} {bag : Bool} {A3 : Option Addr} {c3 : Nat} {of : List Vr} {w : World} (_h : AR B0 B w AA es) (hB0 : B0 ≤ w.heap.size) (hB : B ≤ w.heap.size) (hN : LiesN w A1 vars A2 ports A3 of) (hok : ∀ v ∈ ports, v.t.tr.ok 3 = true) (hln : ports.length ≤ 1000000) :
    Calls Tryd.prog 32 #[.agg #[.int .i64 9, .int .i64 n, .string nm, .string sb, .slice A args.length cap], .slice AA es.length ac, .agg #[.slice A1 vars.length c1, .slice A2 ports.length c2, .bool bag, .slice A3 of.length c3]] w fun r w' => RG B0 B w (ofPortK ⟨vars.map Vr.tr, ports.map Pr.tr, bag, of.map Vr.tr⟩ 9 nm (es.map Tx.tr)) r w' := by
  have hs : ofPortK ⟨vars.map Vr.tr, ports.map Pr.tr, bag, of.map Vr.tr⟩ 9 nm (es.map Tx.tr) = optK (portK ⟨vars.map Vr.tr, ports.map Pr.tr, bag, of.map Vr.tr⟩ nm) (fun t => (if t.k = 0 then (inT, 0) else (noT, 12))) := by unfold ofPortK optK; split <;> simp_all
  rw [hs]
  clear hs
  have C46 := Lib.hid (fun W (o : Only [] w W) => port_any (B0 := B0) (c1 := c1) (c2 := c2) (bag := bag) (c3 := c3) (name := nm) (Nat.le_trans hB0 o.size) (hN.keep o) hok hln)
  have HPR := Lib.hid (show portR ⟨vars.map Vr.tr, ports.map Pr.tr, bag, of.map Vr.tr⟩ nm = match portK ⟨vars.map Vr.tr, ports.map Pr.tr, bag, of.map Vr.tr⟩ nm with | none => (noT, 10) | some t => (t, 0) by unfold portR; cases portK ⟨vars.map Vr.tr, ports.map Pr.tr, bag, of.map Vr.tr⟩ nm <;> rfl)
  have HPO := Lib.hid (show ∀ t, portK ⟨vars.map Vr.tr, ports.map Pr.tr, bag, of.map Vr.tr⟩ nm = some t → True from fun _ _ => trivial)
  obtain ⟨po, hpo⟩ : ∃ po, portK ⟨vars.map Vr.tr, ports.map Pr.tr, bag, of.map Vr.tr⟩ nm = po := ⟨_, rfl⟩
  rw [hpo] at HPR
  rw [hpo]
  simp only [HPR.out] at C46
  clear hpo HPR HPO hok hln
  obtain ⟨n1, hn1⟩ : ∃ n1, vars.length = n1 := ⟨_, rfl⟩
  obtain ⟨n2, hn2⟩ : ∃ n2, ports.length = n2 := ⟨_, rfl⟩
  obtain ⟨n3, hn3⟩ : ∃ n3, of.length = n3 := ⟨_, rfl⟩
  rw [hn1, hn2, hn3] at C46 ⊢
  clear hn1 hn2 hn3
  obtain ⟨ne, hne⟩ : ∃ ne, args.length = ne := ⟨_, rfl⟩
  rw [hne]
  clear hne
  have h0 := Blk.new (w) 24 #[.int .i64 9, .int .i64 n, .string nm, .string sb, .slice A ne cap]
  try simp only [World.size_alloc] at h0
  have h1 := Blk.new ((w).alloc (.cells #[.int .i64 9, .int .i64 n, .string nm, .string sb, .slice A ne cap] 24)) 40 #[.slice A1 n1 c1, .slice A2 n2 c2, .bool bag, .slice A3 n3 c3]
  try simp only [World.size_alloc] at h1
  have h2 := Blk.new (((w).alloc (.cells #[.int .i64 9, .int .i64 n, .string nm, .string sb, .slice A ne cap] 24)).alloc (.cells #[.slice A1 n1 c1, .slice A2 n2 c2, .bool bag, .slice A3 n3 c3] 40)) 34 #[.int .i64 0, .slice none 0 0]
  try simp only [World.size_alloc] at h2
  have X0 := Lib.hid (show Blk ((((w).alloc (.cells #[.int .i64 9, .int .i64 n, .string nm, .string sb, .slice A ne cap] 24)).alloc (.cells #[.slice A1 n1 c1, .slice A2 n2 c2, .bool bag, .slice A3 n3 c3] 40)).alloc (.cells #[.int .i64 0, .slice none 0 0] 34)) (w.heap.size) 24 #[.int .i64 9, .int .i64 n, .string nm, .string sb, .slice A ne cap] from (Blk.alloc (Blk.alloc h0 _) _))
  have N0 := Lib.hid (show Blk ((((w).alloc (.cells #[.int .i64 9, .int .i64 n, .string nm, .string sb, .slice A ne cap] 24)).alloc (.cells #[.slice A1 n1 c1, .slice A2 n2 c2, .bool bag, .slice A3 n3 c3] 40)).alloc (.cells #[.int .i64 0, .slice none 0 0] 34)) (w.heap.size + 1) 40 #[.slice A1 n1 c1, .slice A2 n2 c2, .bool bag, .slice A3 n3 c3] from (Blk.alloc h1 _))
  have R0 := Lib.hid (show Blk ((((w).alloc (.cells #[.int .i64 9, .int .i64 n, .string nm, .string sb, .slice A ne cap] 24)).alloc (.cells #[.slice A1 n1 c1, .slice A2 n2 c2, .bool bag, .slice A3 n3 c3] 40)).alloc (.cells #[.int .i64 0, .slice none 0 0] 34)) (w.heap.size + 1 + 1) 34 #[.int .i64 0, .slice none 0 0] from h2)
  have O0 := Lib.hid (show Only [] w ((((w).alloc (.cells #[.int .i64 9, .int .i64 n, .string nm, .string sb, .slice A ne cap] 24)).alloc (.cells #[.slice A1 n1 c1, .slice A2 n2 c2, .bool bag, .slice A3 n3 c3] 40)).alloc (.cells #[.int .i64 0, .slice none 0 0] 34)) from (((Only.refl [] w).alloc _).alloc _).alloc _)
  have HB := Lib.hid (And.intro hB0 hB)
  clear h0 h1 h2 hB0 hB hN
  obtain ⟨x0, x1, x2, x3, x4, xl⟩ := X0.out.facts5
  obtain ⟨b0, b1, b2, b3, bl⟩ := N0.out.facts4
  obtain ⟨pp, hpp⟩ : ∃ pp : Tt × Int, optK po (fun t => (if t.k = 0 then (inT, 0) else (noT, 12))) = pp := ⟨_, rfl⟩
  rw [hpp]
  have HPP := Lib.hid hpp
  clear hpp
  go_enter Tryd.func32, Tryd.ntmps32
  go_wp2_with (fail)
  refine (C46.out _ O0.out).mono ?_
  rintro r w1 ⟨yk, yA, ycap, yl, rfl, hc, o1⟩
  have O1 := Lib.hid (O0.out.trans o1 (by simp))
  have R1 := Lib.hid (o1.blk R0.out (by simp))
  have X1 := Lib.hid (o1.blk X0.out (by simp))
  have HC1 := Lib.hid (hc.low (B' := w.heap.size + 1 + 1 + 1) (by simp))
  clear hc o1 x0 x1 x2 x3 x4 xl b0 b1 b2 b3 bl C46
  have O2 := Lib.hid (O1.out.alloc (.cells #[.int .i64 yk, .slice yA yl.length ycap] 34))
  have R2 := Lib.hid (Blk.alloc R1.out (.cells #[.int .i64 yk, .slice yA yl.length ycap] 34))
  have X2 := Lib.hid (Blk.alloc X1.out (.cells #[.int .i64 yk, .slice yA yl.length ycap] 34))
  have Y2 := Lib.hid (Blk.new w1 34 #[.int .i64 yk, .slice yA yl.length ycap])
  cases po with
  | none =>
    obtain ⟨r0, r1, rl⟩ := R2.out.facts2
    have g0 := R2.out.frozen 0
    have g1 := R2.out.frozen 1
    go_wp2_with (fail)
    have hb5 := (R2.out.set_ 0 (.int .i64 0)).set_ 1 (.slice none 0 0)
    obtain ⟨e0, e1, -⟩ := Blk.facts2 (a := .int .i64 0) (b := .slice none 0 0) hb5
    refine bodyPost_ret (v := .tuple #[.agg #[.int .i64 0, .slice none 0 0], .int .i64 10]) (by simp [results, Tryd.results32, go_sem, e0, e1]) rfl ?_
    clear e0 e1 hb5
    have o7 : Only [w.heap.size + 1 + 1] (w1.alloc (.cells #[.int .i64 yk, .slice yA yl.length ycap] 34)) _ := ((Only.refl _ (w1.alloc (.cells #[.int .i64 yk, .slice yA yl.length ycap] 34))).setCell (p := ⟨w.heap.size + 1 + 1, 0, none⟩) (.inl (by simp)) (.int .i64 0)).setCell (p := ⟨w.heap.size + 1 + 1, 1, none⟩) (.inl (by simp)) (.slice none 0 0)
    have hp : ((noT, 10) : Tt × Int) = pp := HPP.out
    subst hp
    exact ⟨0, none, 0, [], rfl, plain_TK _ _ 0 ⟨by omega, by omega⟩ _, O2.out.trans o7 (fun b hb => .inr (by simp at hb; omega))⟩
  | some t =>
    dsimp only at HC1
    generalize hw2 : w1.alloc (.cells #[.int .i64 yk, .slice yA yl.length ycap] 34) = w2 at O2 R2 X2 Y2
    have HW2 := Lib.hid hw2
    have HO12 := Lib.hid (show Only [] w1 w2 by rw [← hw2]; exact (Only.refl _ _).alloc _)
    clear hw2
    have HC2 := Lib.hid (HC1.out.keep HO12.out)
    have HYL := Lib.hid (show w.heap.size + 1 + 1 < w1.heap.size from R1.out.lt)
    obtain ⟨x0, x1, x2, x3, x4, xl⟩ := X1.out.facts5
    have Y1 := Lib.hid (Blk.new w1 34 #[.int .i64 yk, .slice yA yl.length ycap])
    obtain ⟨y0, y1, yll⟩ := Y1.out.facts2
    have htk : t.k = yk := by rw [← HC1.out.tr, Tx.tr_mk]; rfl
    have HTK := Lib.hid htk
    clear htk
    by_cases hk0 : yk = 0
    · have dk : (yk == 0) = true := by rw [hk0]; rfl
      have HK0 := Lib.hid hk0
      clear hk0
      go_wp2_with (fail)
      rw [HW2.out]
      refine (plain_any 0 _).mono ?_
      rintro r w4 ⟨rfl, o4⟩
      have O4 := Lib.hid (O2.out.trans o4 (by simp))
      have R4 := Lib.hid (o4.blk R2.out (by simp))
      clear o4 x0 x1 x2 x3 x4 xl y0 y1 yll dk Y1
      obtain ⟨r0, r1, rl⟩ := R4.out.facts2
      have g0 := R4.out.frozen 0
      have g1 := R4.out.frozen 1
      go_wp2_with (fail)
      have hb5 := (R4.out.set_ 0 (.int .i64 0)).set_ 1 (.slice none 0 0)
      obtain ⟨e0, e1, -⟩ := Blk.facts2 (a := .int .i64 0) (b := .slice none 0 0) hb5
      refine bodyPost_ret (v := .tuple #[.agg #[.int .i64 0, .slice none 0 0], .int .i64 0]) (by simp [results, Tryd.results32, go_sem, e0, e1]) rfl ?_
      clear e0 e1 hb5
      have o7 : Only [w.heap.size + 1 + 1] w4 _ := ((Only.refl _ w4).setCell (p := ⟨w.heap.size + 1 + 1, 0, none⟩) (.inl (by simp)) (.int .i64 0)).setCell (p := ⟨w.heap.size + 1 + 1, 1, none⟩) (.inl (by simp)) (.slice none 0 0)
      have hp : ((if t.k = 0 then (inT, 0) else (noT, 12)) : Tt × Int) = pp := HPP.out
      rw [HTK.out, if_pos HK0.out] at hp
      subst hp
      exact ⟨0, none, 0, [], rfl, plain_TK _ _ 0 ⟨by omega, by omega⟩ _, O4.out.trans o7 (fun b hb => .inr (by simp at hb; omega))⟩
    · have dk : (yk == 0) = false := by simp [hk0]
      have HK0 := Lib.hid hk0
      clear hk0
      go_wp2_with (fail)
      rw [HW2.out]
      clear x0 x1 x2 x3 x4 xl y0 y1 yll dk Y1
      refine (wpIn_wide (n := 9)).1 ?_
      refine wpIn_region_relR 11 (Only []) (fr := ?frgo9) (tl := ?tlgo9) (fun iq v wv => match iq with
        | 0 => v = .pointer (some ⟨w.heap.size, 0, none⟩)
        | 1 => v = .int .i64 9
        | 2 => v = .bool false
        | 3 => v = .bool false
        | 9 => v = .bool false
        | 10 => v = .bool false
        | _ => True) (.inl rfl) (by kernel_rfl) (by kernel_rfl) (by kernel_rfl) (by kernel_rfl) (by kernel_rfl) (by kernel_rfl) (by decide) ?htlgo9 ?hfrgo9 (Only.refl _ _) (fun _ _ _ _h k => _h.trans k (fun _ hx => .inl hx)) ?stabgo9 ?stepsgo9 ?donego9
      case htlgo9 => simp only [List.drop_succ_cons, List.drop_zero]; rfl
      case hfrgo9 => intro vals; simp only [putAll, dstAt, Act.put, List.getElem?_toArray, List.getElem?_cons_zero, List.getElem?_cons_succ, Option.bind_some, List.setIfInBounds_toArray, List.set_cons_zero, List.set_cons_succ]; rfl
      case stabgo9 =>
        intro i v wa wb _h
        try dsimp only
        split <;> first | exact id
      case stepsgo9 =>
        refine ⟨?_, ?_, ?_, ?_, ?_, ?_, ?_, ?_, ?_, ?_, ?_, trivial⟩
        · intro vals wr hR hp K hK
          dsimp only at hK ⊢
          clear hp
          unfold RunsOp
          go_simp
          exact hK.out _ _ ⟨_, rfl, Only.refl _ _, rfl⟩
        · intro vals wr hR hp K hK
          dsimp only at hK ⊢
          obtain ⟨p0, -⟩ := hp
          replace p0 := p0 rfl
          dsimp only at p0
          rw [p0] at hK ⊢
          clear p0
          unfold RunsOp
          obtain ⟨k0, k1, k2, k3, k4, kl⟩ := (hR.blk (Blk.drew X2.out) (by simp)).facts5
          go_simp
          exact hK.out _ _ ⟨_, rfl, Only.refl _ _, rfl⟩
        · intro vals wr hR hp K hK
          dsimp only at hK ⊢
          obtain ⟨p1, -⟩ := hp
          replace p1 := p1 rfl
          dsimp only at p1
          rw [p1] at hK ⊢
          clear p1
          unfold RunsOp
          go_simp
          exact hK.out _ _ ⟨_, rfl, Only.refl _ _, rfl⟩
        · intro vals wr hR hp K hK
          dsimp only at hK ⊢
          obtain ⟨p2, -⟩ := hp
          replace p2 := p2 rfl
          dsimp only at p2
          rw [p2] at hK ⊢
          clear p2
          unfold RunsOp
          go_simp
          exact hK.out _ _ ⟨_, rfl, Only.refl _ _, rfl⟩
        · intro vals wr hR hp K hK
          dsimp only at hK ⊢
          obtain ⟨p3, -⟩ := hp
          replace p3 := p3 rfl
          dsimp only at p3
          rw [p3] at hK ⊢
          clear p3
          unfold RunsOp
          go_simp
          exact hK.out _ _ ⟨_, rfl, Only.refl _ _, trivial⟩
        · intro vals wr hR hp K hK
          dsimp only at hK ⊢
          obtain ⟨p3, -⟩ := hp
          replace p3 := p3 rfl
          dsimp only at p3
          rw [p3] at hK ⊢
          clear p3
          unfold RunsOp
          go_simp
          exact hK.out _ _ ⟨_, rfl, Only.refl _ _, trivial⟩
        · intro vals wr hR hp K hK
          dsimp only at hK ⊢
          obtain ⟨-, p3, -⟩ := hp
          replace p3 := p3 rfl
          dsimp only at p3
          rw [p3] at hK ⊢
          clear p3
          unfold RunsOp
          go_simp
          exact hK.out _ _ ⟨_, rfl, Only.refl _ _, trivial⟩
        · intro vals wr hR hp K hK
          dsimp only at hK ⊢
          obtain ⟨-, p3, -⟩ := hp
          replace p3 := p3 rfl
          dsimp only at p3
          rw [p3] at hK ⊢
          clear p3
          unfold RunsOp
          go_simp
          exact hK.out _ _ ⟨_, rfl, Only.refl _ _, trivial⟩
        · intro vals wr hR hp K hK
          dsimp only at hK ⊢
          obtain ⟨-, -, p3, -, -⟩ := hp
          replace p3 := p3 rfl
          dsimp only at p3
          rw [p3] at hK ⊢
          clear p3
          unfold RunsOp
          go_simp
          exact hK.out _ _ ⟨_, rfl, Only.refl _ _, trivial⟩
        · intro vals wr hR hp K hK
          dsimp only at hK ⊢
          obtain ⟨p3, -, -⟩ := hp
          replace p3 := p3 rfl
          dsimp only at p3
          rw [p3] at hK ⊢
          clear p3
          unfold RunsOp
          go_simp
          exact hK.out _ _ ⟨_, rfl, Only.refl _ _, rfl⟩
        · intro vals wr hR hp K hK
          dsimp only at hK ⊢
          obtain ⟨p9, -, -⟩ := hp
          replace p9 := p9 rfl
          dsimp only at p9
          rw [p9] at hK ⊢
          clear p9
          unfold RunsOp
          go_simp
          exact hK.out _ _ ⟨_, rfl, Only.refl _ _, rfl⟩
      case donego9 =>
        intro vals wd hR hF
        have f0 : vals 0 = .pointer (some ⟨w.heap.size, 0, none⟩) := hF 0 (by decide)
        have f1 : vals 1 = .int .i64 9 := hF 1 (by decide)
        have f2 : vals 2 = .bool false := hF 2 (by decide)
        have f3 : vals 3 = .bool false := hF 3 (by decide)
        have f9 : vals 9 = .bool false := hF 9 (by decide)
        have f10 : vals 10 = .bool false := hF 10 (by decide)
        rw [f0, f1, f2, f3, f9, f10]
        clear f0 f1 f2 f3 f9 f10
        have O9 := Lib.hid (O2.out.trans ((Only.refl [] w2).drew.trans hR (by simp)) (by simp))
        have R9 := Lib.hid (hR.blk (Blk.drew R2.out) (by simp))
        clear hR hF
        gi_wp2_with (fail)
        obtain ⟨r0, r1, rl⟩ := R9.out.facts2
        have g0 := R9.out.frozen 0
        have g1 := R9.out.frozen 1
        go_wp2_with (fail)
        have hb5 := (R9.out.set_ 0 (.int .i64 0)).set_ 1 (.slice none 0 0)
        obtain ⟨e0, e1, -⟩ := Blk.facts2 (a := .int .i64 0) (b := .slice none 0 0) hb5
        refine bodyPost_ret (v := .tuple #[.agg #[.int .i64 0, .slice none 0 0], .int .i64 12]) (by simp [results, Tryd.results32, go_sem, e0, e1]) rfl ?_
        clear e0 e1 hb5
        have o7 : Only [w.heap.size + 1 + 1] wd _ := ((Only.refl _ wd).setCell (p := ⟨w.heap.size + 1 + 1, 0, none⟩) (.inl (by simp)) (.int .i64 0)).setCell (p := ⟨w.heap.size + 1 + 1, 1, none⟩) (.inl (by simp)) (.slice none 0 0)
        have hp : ((if t.k = 0 then (inT, 0) else (noT, 12)) : Tt × Int) = pp := HPP.out
        rw [HTK.out, if_neg HK0.out] at hp
        subst hp
        exact ⟨0, none, 0, [], rfl, plain_TK _ _ 0 ⟨by omega, by omega⟩ _, O9.out.trans o7 (fun b hb => .inr (by simp at hb; omega))⟩
set_option maxHeartbeats 4000000 in
theorem ofport10 {B0 B : Nat} {n : Int} {nm sb : ByteArray} {A : Option Addr} {cap : Nat} {args : List Ex} {AA : Option Addr} {ac : Nat} {es : List Tx} {A1 : Option Addr} {c1 : Nat} {vars : List Vr} {A2 : Option Addr} {c2 : Nat} {ports : List Pr} {bag : Bool} {A3 : Option Addr} {c3 : Nat} {of : List Vr} {w : World} (h : AR B0 B w AA es) (hB0 : B0 ≤ w.heap.size) (hB : B ≤ w.heap.size) (hN : LiesN w A1 vars A2 ports A3 of) (hok : ∀ v ∈ ports, v.t.tr.ok 3 = true) (hln : ports.length ≤ 1000000) (hl : 1 ≤ es.length) :
    Calls Tryd.prog 32 #[.agg #[.int .i64 10, .int .i64 n, .string nm, .string sb, .slice A args.length cap], .slice AA es.length ac, .agg #[.slice A1 vars.length c1, .slice A2 ports.length c2, .bool bag, .slice A3 of.length c3]] w fun r w' => RG B0 B w (ofPortK ⟨vars.map Vr.tr, ports.map Pr.tr, bag, of.map Vr.tr⟩ 10 nm (es.map Tx.tr)) r w' := by
  obtain ⟨x, xs, rfl⟩ : ∃ x xs, es = x :: xs := by cases es with | nil => simp at hl | cons x xs => exact ⟨x, xs, rfl⟩
  have hs : ofPortK ⟨vars.map Vr.tr, ports.map Pr.tr, bag, of.map Vr.tr⟩ 10 nm ((x :: xs).map Tx.tr) = optK (portK ⟨vars.map Vr.tr, ports.map Pr.tr, bag, of.map Vr.tr⟩ nm) (fun t => (if t.same x.tr = true then (t, 0) else (noT, 12))) := by unfold ofPortK optK; split <;> simp_all
  rw [hs]
  clear hs
  have C46 := Lib.hid (fun W (o : Only [] w W) => port_any (B0 := B0) (c1 := c1) (c2 := c2) (bag := bag) (c3 := c3) (name := nm) (Nat.le_trans hB0 o.size) (hN.keep o) hok hln)
  have HPR := Lib.hid (show portR ⟨vars.map Vr.tr, ports.map Pr.tr, bag, of.map Vr.tr⟩ nm = match portK ⟨vars.map Vr.tr, ports.map Pr.tr, bag, of.map Vr.tr⟩ nm with | none => (noT, 10) | some t => (t, 0) by unfold portR; cases portK ⟨vars.map Vr.tr, ports.map Pr.tr, bag, of.map Vr.tr⟩ nm <;> rfl)
  have HPO := Lib.hid (show ∀ t, portK ⟨vars.map Vr.tr, ports.map Pr.tr, bag, of.map Vr.tr⟩ nm = some t → True from fun _ _ => trivial)
  obtain ⟨po, hpo⟩ : ∃ po, portK ⟨vars.map Vr.tr, ports.map Pr.tr, bag, of.map Vr.tr⟩ nm = po := ⟨_, rfl⟩
  rw [hpo] at HPR
  rw [hpo]
  simp only [HPR.out] at C46
  clear hpo HPR HPO hok hln
  have LX := Lib.hid (h.el (e := x) (by simp))
  have hx := h.row.row 0 x rfl
  obtain ⟨n1, hn1⟩ : ∃ n1, vars.length = n1 := ⟨_, rfl⟩
  obtain ⟨n2, hn2⟩ : ∃ n2, ports.length = n2 := ⟨_, rfl⟩
  obtain ⟨n3, hn3⟩ : ∃ n3, of.length = n3 := ⟨_, rfl⟩
  rw [hn1, hn2, hn3] at C46 ⊢
  clear hn1 hn2 hn3
  obtain ⟨ne, hne⟩ : ∃ ne, args.length = ne := ⟨_, rfl⟩
  rw [hne]
  clear hne
  have h0 := Blk.new (w) 24 #[.int .i64 10, .int .i64 n, .string nm, .string sb, .slice A ne cap]
  try simp only [World.size_alloc] at h0
  have h1 := Blk.new ((w).alloc (.cells #[.int .i64 10, .int .i64 n, .string nm, .string sb, .slice A ne cap] 24)) 40 #[.slice A1 n1 c1, .slice A2 n2 c2, .bool bag, .slice A3 n3 c3]
  try simp only [World.size_alloc] at h1
  have h2 := Blk.new (((w).alloc (.cells #[.int .i64 10, .int .i64 n, .string nm, .string sb, .slice A ne cap] 24)).alloc (.cells #[.slice A1 n1 c1, .slice A2 n2 c2, .bool bag, .slice A3 n3 c3] 40)) 34 #[.int .i64 0, .slice none 0 0]
  try simp only [World.size_alloc] at h2
  have X0 := Lib.hid (show Blk ((((w).alloc (.cells #[.int .i64 10, .int .i64 n, .string nm, .string sb, .slice A ne cap] 24)).alloc (.cells #[.slice A1 n1 c1, .slice A2 n2 c2, .bool bag, .slice A3 n3 c3] 40)).alloc (.cells #[.int .i64 0, .slice none 0 0] 34)) (w.heap.size) 24 #[.int .i64 10, .int .i64 n, .string nm, .string sb, .slice A ne cap] from (Blk.alloc (Blk.alloc h0 _) _))
  have N0 := Lib.hid (show Blk ((((w).alloc (.cells #[.int .i64 10, .int .i64 n, .string nm, .string sb, .slice A ne cap] 24)).alloc (.cells #[.slice A1 n1 c1, .slice A2 n2 c2, .bool bag, .slice A3 n3 c3] 40)).alloc (.cells #[.int .i64 0, .slice none 0 0] 34)) (w.heap.size + 1) 40 #[.slice A1 n1 c1, .slice A2 n2 c2, .bool bag, .slice A3 n3 c3] from (Blk.alloc h1 _))
  have R0 := Lib.hid (show Blk ((((w).alloc (.cells #[.int .i64 10, .int .i64 n, .string nm, .string sb, .slice A ne cap] 24)).alloc (.cells #[.slice A1 n1 c1, .slice A2 n2 c2, .bool bag, .slice A3 n3 c3] 40)).alloc (.cells #[.int .i64 0, .slice none 0 0] 34)) (w.heap.size + 1 + 1) 34 #[.int .i64 0, .slice none 0 0] from h2)
  have O0 := Lib.hid (show Only [] w ((((w).alloc (.cells #[.int .i64 10, .int .i64 n, .string nm, .string sb, .slice A ne cap] 24)).alloc (.cells #[.slice A1 n1 c1, .slice A2 n2 c2, .bool bag, .slice A3 n3 c3] 40)).alloc (.cells #[.int .i64 0, .slice none 0 0] 34)) from (((Only.refl [] w).alloc _).alloc _).alloc _)
  have HB := Lib.hid (And.intro hB0 hB)
  clear h0 h1 h2 hB0 hB hN hl
  obtain ⟨x0, x1, x2, x3, x4, xl⟩ := X0.out.facts5
  obtain ⟨b0, b1, b2, b3, bl⟩ := N0.out.facts4
  obtain ⟨pp, hpp⟩ : ∃ pp : Tt × Int, optK po (fun t => (if t.same x.tr = true then (t, 0) else (noT, 12))) = pp := ⟨_, rfl⟩
  rw [hpp]
  have HPP := Lib.hid hpp
  clear hpp
  go_enter Tryd.func32, Tryd.ntmps32
  go_wp2_with (fail)
  refine (C46.out _ O0.out).mono ?_
  rintro r w1 ⟨yk, yA, ycap, yl, rfl, hc, o1⟩
  have O1 := Lib.hid (O0.out.trans o1 (by simp))
  have R1 := Lib.hid (o1.blk R0.out (by simp))
  have X1 := Lib.hid (o1.blk X0.out (by simp))
  have HC1 := Lib.hid (hc.low (B' := w.heap.size + 1 + 1 + 1) (by simp))
  clear hc o1 x0 x1 x2 x3 x4 xl b0 b1 b2 b3 bl C46
  have O2 := Lib.hid (O1.out.alloc (.cells #[.int .i64 yk, .slice yA yl.length ycap] 34))
  have R2 := Lib.hid (Blk.alloc R1.out (.cells #[.int .i64 yk, .slice yA yl.length ycap] 34))
  have X2 := Lib.hid (Blk.alloc X1.out (.cells #[.int .i64 yk, .slice yA yl.length ycap] 34))
  have Y2 := Lib.hid (Blk.new w1 34 #[.int .i64 yk, .slice yA yl.length ycap])
  cases po with
  | none =>
    obtain ⟨r0, r1, rl⟩ := R2.out.facts2
    have g0 := R2.out.frozen 0
    have g1 := R2.out.frozen 1
    go_wp2_with (fail)
    have hb5 := (R2.out.set_ 0 (.int .i64 0)).set_ 1 (.slice none 0 0)
    obtain ⟨e0, e1, -⟩ := Blk.facts2 (a := .int .i64 0) (b := .slice none 0 0) hb5
    refine bodyPost_ret (v := .tuple #[.agg #[.int .i64 0, .slice none 0 0], .int .i64 10]) (by simp [results, Tryd.results32, go_sem, e0, e1]) rfl ?_
    clear e0 e1 hb5
    have o7 : Only [w.heap.size + 1 + 1] (w1.alloc (.cells #[.int .i64 yk, .slice yA yl.length ycap] 34)) _ := ((Only.refl _ (w1.alloc (.cells #[.int .i64 yk, .slice yA yl.length ycap] 34))).setCell (p := ⟨w.heap.size + 1 + 1, 0, none⟩) (.inl (by simp)) (.int .i64 0)).setCell (p := ⟨w.heap.size + 1 + 1, 1, none⟩) (.inl (by simp)) (.slice none 0 0)
    have hp : ((noT, 10) : Tt × Int) = pp := HPP.out
    subst hp
    exact ⟨0, none, 0, [], rfl, plain_TK _ _ 0 ⟨by omega, by omega⟩ _, O2.out.trans o7 (fun b hb => .inr (by simp at hb; omega))⟩
  | some t =>
    dsimp only at HC1
    generalize hw2 : w1.alloc (.cells #[.int .i64 yk, .slice yA yl.length ycap] 34) = w2 at O2 R2 X2 Y2
    have HW2 := Lib.hid hw2
    have HO12 := Lib.hid (show Only [] w1 w2 by rw [← hw2]; exact (Only.refl _ _).alloc _)
    clear hw2
    have HC2 := Lib.hid (HC1.out.keep HO12.out)
    have HYL := Lib.hid (show w.heap.size + 1 + 1 < w1.heap.size from R1.out.lt)
    have CS := Lib.hid (fun W (o : Only [] w2 W) => sameT (.mk yk yA ycap yl) x W (HC2.out.lies.keep o) (LX.out.lies.keep (O2.out.trans o (by simp))))
    rw [show (Tx.mk yk yA ycap yl).tr = t from HC2.out.tr] at CS
    replace hx := hx.only O2.out (by simp)
    obtain ⟨q, hq⟩ : ∃ q, t.same x.tr = q := ⟨_, rfl⟩
    rw [hq] at CS
    have HQ := Lib.hid hq
    clear hq
    have HPP2 := Lib.hid (show (if q = true then (t, (0 : Int)) else (noT, 12)) = pp by rw [← HQ.out]; exact HPP.out)
    clear HPP HQ
    obtain ⟨vk, vA, vcap, vl⟩ := x
    obtain ⟨b, o, rfl, hbb, c0, c1⟩ := hx.cells
    simp only [Nat.zero_mul, Nat.add_zero] at c0 c1
    have HC := Lib.hid (And.intro hbb (And.intro c0 c1))
    clear hbb c0 c1 hx
    obtain ⟨m9, hm9⟩ : ∃ m9, xs.length + 1 = m9 := ⟨_, rfl⟩
    have HM9 := Lib.hid (show 1 ≤ m9 by omega)
    simp only [hm9]
    clear hm9
    obtain ⟨x0, x1, x2, x3, x4, xl⟩ := X1.out.facts5
    go_wp2_with (fail)
    rw [HW2.out]
    clear x0 x1 x2 x3 x4 xl
    refine (wpIn_wide (n := 9)).1 ?_
    refine wpIn_region_relR 11 (Only []) (fr := ?frgo10) (tl := ?tlgo10) (fun iq v wv => match iq with
      | 0 => v = .pointer (some ⟨w.heap.size, 0, none⟩)
      | 1 => v = .int .i64 10
      | 2 => v = .bool true
      | 3 => v = .bool true
      | 4 => v = .agg #[.int .i64 yk, .slice yA yl.length ycap]
      | 5 => v = .slice (some ⟨b, o, none⟩) m9 ac
      | 6 => v = .pointer (some ⟨b, o, none⟩)
      | 7 => v = .agg #[.int .i64 vk, .slice vA vl.length vcap]
      | 8 => v = .bool q
      | 9 => v = .bool q
      | 10 => v = .bool q
      | _ => True) (.inl rfl) (by kernel_rfl) (by kernel_rfl) (by kernel_rfl) (by kernel_rfl) (by kernel_rfl) (by kernel_rfl) (by decide) ?htlgo10 ?hfrgo10 (Only.refl _ _) (fun _ _ _ h k => h.trans k (fun _ hx => .inl hx)) ?stabgo10 ?stepsgo10 ?donego10
    case htlgo10 => simp only [List.drop_succ_cons, List.drop_zero]; rfl
    case hfrgo10 => intro vals; simp only [putAll, dstAt, Act.put, List.getElem?_toArray, List.getElem?_cons_zero, List.getElem?_cons_succ, Option.bind_some, List.setIfInBounds_toArray, List.set_cons_zero, List.set_cons_succ]; rfl
    case stabgo10 =>
      intro i v wa wb h
      try dsimp only
      split <;> first | exact id
    case stepsgo10 =>
      refine ⟨?_, ?_, ?_, ?_, ?_, ?_, ?_, ?_, ?_, ?_, ?_, trivial⟩
      · intro vals wr hR hp K hK
        dsimp only at hK ⊢
        clear hp
        unfold RunsOp
        go_simp
        exact hK.out _ _ ⟨_, rfl, Only.refl _ _, rfl⟩
      · intro vals wr hR hp K hK
        dsimp only at hK ⊢
        obtain ⟨p0, -⟩ := hp
        replace p0 := p0 rfl
        dsimp only at p0
        rw [p0] at hK ⊢
        clear p0
        unfold RunsOp
        obtain ⟨k0, k1, k2, k3, k4, kl⟩ := (hR.blk (Blk.drew X2.out) (by simp)).facts5
        go_simp
        exact hK.out _ _ ⟨_, rfl, Only.refl _ _, rfl⟩
      · intro vals wr hR hp K hK
        dsimp only at hK ⊢
        obtain ⟨p1, -⟩ := hp
        replace p1 := p1 rfl
        dsimp only at p1
        rw [p1] at hK ⊢
        clear p1
        unfold RunsOp
        go_simp
        exact hK.out _ _ ⟨_, rfl, Only.refl _ _, rfl⟩
      · intro vals wr hR hp K hK
        dsimp only at hK ⊢
        obtain ⟨p2, -⟩ := hp
        replace p2 := p2 rfl
        dsimp only at p2
        rw [p2] at hK ⊢
        clear p2
        unfold RunsOp
        go_simp
        exact hK.out _ _ ⟨_, rfl, Only.refl _ _, rfl⟩
      · intro vals wr hR hp K hK
        dsimp only at hK ⊢
        obtain ⟨p3, -⟩ := hp
        replace p3 := p3 rfl
        dsimp only at p3
        rw [p3] at hK ⊢
        clear p3
        unfold RunsOp
        obtain ⟨k0, k1, kl⟩ := (hR.blk (Blk.drew Y2.out) (by simp)).facts2
        go_simp
        exact hK.out _ _ ⟨_, rfl, Only.refl _ _, rfl⟩
      · intro vals wr hR hp K hK
        dsimp only at hK ⊢
        obtain ⟨p3, -⟩ := hp
        replace p3 := p3 rfl
        dsimp only at p3
        rw [p3] at hK ⊢
        clear p3
        unfold RunsOp
        go_simp
        exact hK.out _ _ ⟨_, rfl, Only.refl _ _, rfl⟩
      · intro vals wr hR hp K hK
        dsimp only at hK ⊢
        obtain ⟨p5, p3, -⟩ := hp
        replace p5 := p5 rfl
        replace p3 := p3 rfl
        dsimp only at p5 p3
        rw [p5, p3] at hK ⊢
        clear p5 p3
        unfold RunsOp
        have hm1 : (0 : Int) < (m9 : Int) := by have := HM9.out; omega
        have hm2 : 0 < m9 := by have := HM9.out; omega
        go_simp
        exact hK.out _ _ ⟨_, rfl, Only.refl _ _, rfl⟩
      · intro vals wr hR hp K hK
        dsimp only at hK ⊢
        obtain ⟨p6, p3, -⟩ := hp
        replace p6 := p6 rfl
        replace p3 := p3 rfl
        dsimp only at p6 p3
        rw [p6, p3] at hK ⊢
        clear p6 p3
        unfold RunsOp
        have c0 := (hR.cell (p := ⟨b, o, none⟩) HC.out.1 (by simp)).trans HC.out.2.1
        have c1 := (hR.cell (p := ⟨b, o + 1, none⟩) HC.out.1 (by simp)).trans HC.out.2.2
        go_simp
        exact hK.out _ _ ⟨_, rfl, Only.refl _ _, rfl⟩
      · intro vals wr hR hp K hK
        dsimp only at hK ⊢
        obtain ⟨p4, p7, p3, -, -⟩ := hp
        replace p4 := p4 rfl
        replace p7 := p7 rfl
        replace p3 := p3 rfl
        dsimp only at p4 p7 p3
        rw [p4, p7, p3] at hK ⊢
        clear p4 p7 p3
        unfold RunsOp
        go_simp
        refine (CS.out _ ((Only.refl [] _).drew.trans hR (by simp))).mono ?_
        rintro e w2 ⟨rfl, o2⟩
        exact hK.out _ _ ⟨_, rfl, o2, rfl⟩
      · intro vals wr hR hp K hK
        dsimp only at hK ⊢
        obtain ⟨p3, p8, -⟩ := hp
        replace p3 := p3 rfl
        replace p8 := p8 rfl
        dsimp only at p3 p8
        rw [p3, p8] at hK ⊢
        clear p3 p8
        unfold RunsOp
        go_simp
        exact hK.out _ _ ⟨_, rfl, Only.refl _ _, rfl⟩
      · intro vals wr hR hp K hK
        dsimp only at hK ⊢
        obtain ⟨p9, -, -⟩ := hp
        replace p9 := p9 rfl
        dsimp only at p9
        rw [p9] at hK ⊢
        clear p9
        unfold RunsOp
        go_simp
        exact hK.out _ _ ⟨_, rfl, Only.refl _ _, rfl⟩
    case donego10 =>
      intro vals wd hR hF
      have f0 : vals 0 = .pointer (some ⟨w.heap.size, 0, none⟩) := hF 0 (by decide)
      have f1 : vals 1 = .int .i64 10 := hF 1 (by decide)
      have f2 : vals 2 = .bool true := hF 2 (by decide)
      have f3 : vals 3 = .bool true := hF 3 (by decide)
      have f4 : vals 4 = .agg #[.int .i64 yk, .slice yA yl.length ycap] := hF 4 (by decide)
      have f5 : vals 5 = .slice (some ⟨b, o, none⟩) m9 ac := hF 5 (by decide)
      have f6 : vals 6 = .pointer (some ⟨b, o, none⟩) := hF 6 (by decide)
      have f7 : vals 7 = .agg #[.int .i64 vk, .slice vA vl.length vcap] := hF 7 (by decide)
      have f8 : (vals 8) = .bool q := hF 8 (by decide)
      have f9 : vals 9 = .bool q := hF 9 (by decide)
      have f10 : vals 10 = .bool q := hF 10 (by decide)
      rw [f0, f1, f2, f3, f4, f5, f6, f7, f9, f10]
      clear f0 f1 f2 f3 f4 f5 f6 f7 f9 f10
      rw [f8]
      clear f8
      have O9 := Lib.hid (O2.out.trans ((Only.refl [] w2).drew.trans hR (by simp)) (by simp))
      have R9 := Lib.hid (hR.blk (Blk.drew R2.out) (by simp))
      have Y9 := Lib.hid (hR.blk (Blk.drew Y2.out) (by simp))
      have HC9 := Lib.hid (HC2.out.keep ((Only.refl [] w2).drew.trans hR (by simp)))
      clear hR hF
      gi_wp2_with (fail)
      cases q with
      | false =>
        obtain ⟨r0, r1, rl⟩ := R9.out.facts2
        have g0 := R9.out.frozen 0
        have g1 := R9.out.frozen 1
        go_wp2_with (fail)
        have hb5 := (R9.out.set_ 0 (.int .i64 0)).set_ 1 (.slice none 0 0)
        obtain ⟨e0, e1, -⟩ := Blk.facts2 (a := .int .i64 0) (b := .slice none 0 0) hb5
        refine bodyPost_ret (v := .tuple #[.agg #[.int .i64 0, .slice none 0 0], .int .i64 12]) (by simp [results, Tryd.results32, go_sem, e0, e1]) rfl ?_
        clear e0 e1 hb5
        have o7 : Only [w.heap.size + 1 + 1] wd _ := ((Only.refl _ wd).setCell (p := ⟨w.heap.size + 1 + 1, 0, none⟩) (.inl (by simp)) (.int .i64 0)).setCell (p := ⟨w.heap.size + 1 + 1, 1, none⟩) (.inl (by simp)) (.slice none 0 0)
        have hp := HPP2.out
        first | rw [if_neg (by decide)] at hp | simp at hp
        subst hp
        exact ⟨0, none, 0, [], rfl, plain_TK _ _ 0 ⟨by omega, by omega⟩ _, O9.out.trans o7 (fun b hb => .inr (by simp at hb; omega))⟩
      | true =>
        obtain ⟨y0, y1, yll⟩ := Y9.out.facts2
        obtain ⟨r0, r1, rl⟩ := R9.out.facts2
        have g0 := R9.out.frozen 0
        have g1 := R9.out.frozen 1
        go_wp2_with (fail)
        have hb5 := (R9.out.set_ 0 (.int .i64 yk)).set_ 1 (.slice yA yl.length ycap)
        obtain ⟨e0, e1, -⟩ := Blk.facts2 (a := .int .i64 yk) (b := .slice yA yl.length ycap) hb5
        refine bodyPost_ret (v := .tuple #[.agg #[.int .i64 yk, .slice yA yl.length ycap], .int .i64 0]) (by simp [results, Tryd.results32, go_sem, e0, e1]) rfl ?_
        clear e0 e1 hb5
        have o7 : Only [w.heap.size + 1 + 1] wd _ := ((Only.refl _ wd).setCell (p := ⟨w.heap.size + 1 + 1, 0, none⟩) (.inl (by simp)) (.int .i64 yk)).setCell (p := ⟨w.heap.size + 1 + 1, 1, none⟩) (.inl (by simp)) (.slice yA yl.length ycap)
        have hp := HPP2.out
        rw [if_pos (by trivial)] at hp
        subst hp
        exact ⟨yk, yA, ycap, yl, rfl, (HC9.out.only o7 (by have := HB.out; simp; omega)).low (by have := HB.out; omega), O9.out.trans o7 (fun b hb => .inr (by simp at hb; omega))⟩
end Go.Proofs.YtjhpckeoackblaaDoor
