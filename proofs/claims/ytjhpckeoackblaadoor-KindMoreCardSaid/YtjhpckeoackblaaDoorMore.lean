/- KindMore. -/
import Derived.Test.YtjhpckeoackblaaDoorTypes0
import Derived.Test.YtjhpckeoackblaaDoorRK0
namespace Go.Proofs.YtjhpckeoackblaaDoor
open Go.RowKit Go.Kx
open Go.Val (Tt)
set_option maxRecDepth 100000
section
variable {α : Type} (cs : α → List Value) {K : Nat}
theorem flatG_inv (hcs : ∀ a, (cs a).length = K) : ∀ (L : List α) (j : Nat) (u : Value), (flatG cs L)[j]? = some u → ∃ (i r : Nat) (e : α), j = i * K + r ∧ L[i]? = some e ∧ (cs e)[r]? = some u
  | [], j, u, h => by simp [flatG] at h
  | a :: L, j, u, h => by
    rw [flatG, List.flatMap_cons] at h
    rcases Nat.lt_or_ge j (cs a).length with hj | hj
    · rw [List.getElem?_append_left hj] at h
      exact ⟨0, j, a, by omega, rfl, h⟩
    · rw [List.getElem?_append_right hj, hcs] at h
      obtain ⟨i, r, e, h1, h2, h3⟩ := flatG_inv hcs L _ u h
      rw [hcs] at hj
      exact ⟨i + 1, r, e, by rw [Nat.add_mul, Nat.one_mul]; omega, by simpa using h2, h3⟩
theorem run_appS {TS TE : TypeId} {zv : Value} {bytes : Nat} (hcs : ∀ a, (cs a).length = K) (h1 : ∀ a, ∀ u ∈ cs a, u.oneCell' = true) (hT : Tryd.prog.underlying TS = some (.slice TE)) (hinfo : ((Tryd.prog.info? TE).map fun i => (i.zero, i.size, i.bytes)) = some (some zv, K, bytes)) (hzs : zv.cells.size = K) (h0 : 0 < K) (hb64 : bytes ≤ 128)
    {w : World} {B c cz : Nat} {A AS : Option Addr} {L M : List α} (h : w.ownsRow B TE K (.slice A L.length c) L.length (flatG cs L)) (hz : ∀ j u, (flatG cs M)[j]? = some u → ∃ p, AS = some p ∧ w.cell? (p.add j) = some u) (hl : L.length + M.length ≤ 1048576) (hB : B ≤ w.heap.size) :
    ∃ A' c' w1, (Builtin.append_ #[TS, TS] TS #[.slice A L.length c, .slice AS M.length cz]).run Tryd.prog w = .ok (.slice A' (L ++ M).length c') w1 ∧ w1.ownsRow B TE K (.slice A' (L ++ M).length c') (L ++ M).length (flatG cs (L ++ M)) ∧ Only (A.toList.map (·.block)) w w1 := by
  obtain ⟨i, hi, h0', h1', h2⟩ := info_parts hinfo
  rw [List.length_append]
  cases AS with
  | none =>
    have hM : M = [] := by
      cases M with
      | nil => rfl
      | cons a M =>
        exfalso
        obtain ⟨p, hp, -⟩ := hz 0 ((flatG cs (a :: M))[0]'(by rw [flatG_len cs hcs, List.length_cons, Nat.add_mul]; omega)) (List.getElem?_eq_getElem _)
        cases hp
    subst hM
    refine ⟨A, c, w, ?_, by simpa using h, Only.refl _ _⟩
    rcases h.2 with ⟨h3, h4⟩ | ⟨g, cap, cur, h3, _, _, hnc, _⟩
    · injection h3 with h5 h6 h7
      subst h5 h7
      simp [Builtin.append_, run_underlying hT, sizeOf, typeInfo, hi, Builtin.lenOf, Builtin.firstCells, h4]
    · injection h3 with h3 _ h5
      subst h3 h5
      simp [Builtin.append_, run_underlying hT, sizeOf, typeInfo, hi, Builtin.lenOf, Builtin.firstCells, hnc, storeCells]
  | some a =>
    obtain ⟨v', w1, hr, ho, hg, hn, hat⟩ := run_append_own_at (P := Tryd.prog) w B TS TS TE i zv K bytes hT hi h0' h1' h2 hzs h0 _ L.length _ h a M.length cz (flatG cs M) (flatG_len cs hcs M)
      (by intro j u hj; obtain ⟨p, hp, hc⟩ := hz j u hj; injection hp with hp; subst hp; exact hc) (flatG_one cs h1 M) (by unfold maxLen; omega) (Nat.le_trans (Nat.mul_le_mul hl hb64) (by omega)) hB
    rw [← flatG_app] at ho
    obtain ⟨A', c', rfl⟩ : ∃ A' c', v' = .slice A' (L.length + M.length) c' := by
      rcases ho.2 with ⟨rfl, h2⟩ | ⟨g, cap', cur, rfl, _⟩
      · exact ⟨none, 0, by rw [h2]⟩
      · exact ⟨_, _, rfl⟩
    exact ⟨A', c', w1, hr, ho, (Only.of_grownBy hg).mono (fun x hx => .inl (by
      cases A with
      | none => simp [Value.ownBlock] at hx
      | some p => simp [Value.ownBlock] at hx; simp [hx]))⟩
theorem run_app0 {TS TE : TypeId} {zv : Value} {bytes : Nat} (hcs : ∀ a, (cs a).length = K) (h1 : ∀ a, ∀ u ∈ cs a, u.oneCell' = true) (hT : Tryd.prog.underlying TS = some (.slice TE)) (hinfo : ((Tryd.prog.info? TE).map fun i => (i.zero, i.size, i.bytes)) = some (some zv, K, bytes)) (hzs : zv.cells.size = K) (h0 : 0 < K) (hb64 : bytes ≤ 128)
    {w : World} (B : Nat) {cz : Nat} {AS : Option Addr} {M : List α} (hz : ∀ j u, (flatG cs M)[j]? = some u → ∃ p, AS = some p ∧ w.cell? (p.add j) = some u) (hl : M.length ≤ 1048576) (hB : B ≤ w.heap.size) :
    ∃ A' c' w1, (Builtin.append_ #[TS, TS] TS #[.slice none 0 0, .slice AS M.length cz]).run Tryd.prog w = .ok (.slice A' M.length c') w1 ∧ w1.ownsRow B TE K (.slice A' M.length c') M.length (flatG cs M) ∧ Only [] w w1 := by
  have h := run_appS cs hcs h1 hT hinfo hzs h0 hb64 (w := w) (B := B) (c := 0) (cz := cz) (A := none) (AS := AS) (L := []) (M := M) (World.ownsRow_nil _ _ _ _) hz (by simpa using hl) hB
  exact h
end
theorem runs_append {P : Program} {w w1 : World} {ops : Array Oper} {o : Oper} {a : Act} {K : Act → World → Prop} {Q : Exit → Act → World → Prop} {v xv r : Value} {t1 t2 ty : TypeId}
    (hrun : (Builtin.append_ #[t1, t2] ty #[v, xv]).run P w = .ok r w1) (hg : o.guard = none) (s x : Operand)
    (hop : o.op = .call { callee := .builtin .append, args := #[s, x], argTypes := #[t1, t2] }) (hty : o.type = ty) (hs : a.eval s = v) (hx : a.eval x = xv)
    (hK : K (a.put o.dst r) w1) : if Region.wanted o (yielded ops a.tmps) = true then Oper.wp P o a w K Q else K (a.put o.dst undef) w := by
  have hw : Region.wanted o (yielded ops a.tmps) = true := by simp [Region.wanted, hg]
  rw [if_pos hw]
  subst hty
  unfold Oper.wp execOp
  simp only [hop, resolve, invoke, builtin, Sem.run_bind, Sem.run_pure, Result.andThen_ok, List.map_toArray, List.map_cons, List.map_nil, hs, hx, hrun]
  exact hK
theorem pcs_len (a : Pr) : a.cs.length = 3 := by cases a; rfl
theorem pcs_one (a : Pr) : ∀ u ∈ a.cs, u.oneCell' = true := by
  intro u hu
  cases a
  simp [Pr.cs] at hu
  rcases hu with rfl | rfl | rfl <;> rfl
theorem infoV66 : ((Tryd.prog.info? 66).map fun i => (i.zero, i.size, i.bytes)) = some (some (.agg #[.string ⟨#[]⟩, .string ⟨#[]⟩, .int .i64 0, .slice none 0 0]), 4, 64) := by kernel_rfl
theorem infoP68 : ((Tryd.prog.info? 68).map fun i => (i.zero, i.size, i.bytes)) = some (some (.agg #[.string ⟨#[]⟩, .int .i64 0, .slice none 0 0]), 3, 48) := by kernel_rfl
theorem RowVr.src {w : World} {A : Option Addr} {l : List Vr} (h : RowVr w A l) : ∀ j u, (flatG Vr.cs l)[j]? = some u → ∃ p, A = some p ∧ w.cell? (p.add j) = some u := fun j u hj => by
  obtain ⟨i, r, e, rfl, he, hu⟩ := flatG_inv Vr.cs vcs_len l j u hj
  obtain ⟨b, o, hA, hb, hc⟩ := h.row i e he
  exact ⟨_, hA, by rw [Addr.add_lit, ← Nat.add_assoc]; exact hc r u hu⟩
theorem RowPr.src {w : World} {A : Option Addr} {l : List Pr} (h : RowPr w A l) : ∀ j u, (flatG Pr.cs l)[j]? = some u → ∃ p, A = some p ∧ w.cell? (p.add j) = some u := fun j u hj => by
  obtain ⟨i, r, e, rfl, he, hu⟩ := flatG_inv Pr.cs pcs_len l j u hj
  obtain ⟨b, o, hA, hb, hc⟩ := h.row i e he
  exact ⟨_, hA, by rw [Addr.add_lit, ← Nat.add_assoc]; exact hc r u hu⟩
theorem RowVr.ofApp {w : World} {B c : Nat} {A : Option Addr} {l m : List Vr} (ho : w.ownsRow B 66 4 (.slice A (l ++ m).length c) (l ++ m).length (flatG Vr.cs (l ++ m))) {A1 A2 : Option Addr} (h1 : RowVr w A1 l) (h2 : RowVr w A2 m) (hl : (l ++ m).length ≤ 9223372036854775807) : RowVr w A (l ++ m) :=
  ⟨fun i e he => row_of_ownG Vr.cs vcs_len ho rfl i e he, fun e he => by rcases List.mem_append.1 he with h | h; exact h1.sub e h; exact h2.sub e h, hl⟩
theorem RowPr.ofApp {w : World} {B c : Nat} {A : Option Addr} {l m : List Pr} (ho : w.ownsRow B 68 3 (.slice A (l ++ m).length c) (l ++ m).length (flatG Pr.cs (l ++ m))) {A1 A2 : Option Addr} (h1 : RowPr w A1 l) (h2 : RowPr w A2 m) (hl : (l ++ m).length ≤ 9223372036854775807) : RowPr w A (l ++ m) :=
  ⟨fun i e he => row_of_ownG Pr.cs pcs_len ho rfl i e he, fun e he => by rcases List.mem_append.1 he with h | h; exact h1.sub e h; exact h2.sub e h, hl⟩
theorem type_more (a b : Nm) (t : Tr) (h : (t.type a).2 = 0) : t.type (a.more b) = t.type a := by
  unfold Tr.type at h ⊢
  split at h
  · rename_i hk
    rw [if_pos hk, if_pos hk]
    exact kind_more a b t h
  · simp at h
theorem type_ok {nm : Nm} (hn : nm.ok) (t : Tr) : (t.type nm).1.ok 3 = true := by
  unfold Tr.type
  split
  · exact kind_ok hn t
  · exact ok_noT
theorem OkN.app {vars mvars : List Vr} {ports mports : List Pr} {of mof : List Vr} (h : OkN vars ports of) (k : OkN mvars mports mof) (h1 : vars.length ≤ 100 ∧ ports.length ≤ 100 ∧ of.length ≤ 100) (k1 : mvars.length ≤ 100 ∧ mports.length ≤ 100 ∧ mof.length ≤ 100) : OkN (vars ++ mvars) (ports ++ mports) (of ++ mof) :=
  ⟨fun v hv => by rcases List.mem_append.1 hv with x | x; exact h.fv v x; exact k.fv v x, fun v hv => by rcases List.mem_append.1 hv with x | x; exact h.fp v x; exact k.fp v x, fun v hv => by rcases List.mem_append.1 hv with x | x; exact h.fo v x; exact k.fo v x,
   by rw [List.length_append]; omega, by rw [List.length_append]; omega, by rw [List.length_append]; omega⟩
set_option maxHeartbeats 16000000 in
theorem more_law {A1 : Option Addr} {c1 : Nat} {vars : List Vr} {A2 : Option Addr} {c2 : Nat} {ports : List Pr} {bag : Bool} {A3 : Option Addr} {c3 : Nat} {of : List Vr} {B1 : Option Addr} {d1 : Nat} {mvars : List Vr} {B2 : Option Addr} {d2 : Nat} {mports : List Pr} {mbag : Bool} {B3 : Option Addr} {d3 : Nat} {mof : List Vr} {op n : Int} {nm sb : ByteArray} {A : Option Addr} {cap : Nat} {args : List Ex} {w : World} (hL : Lies w (.mk op n nm sb A cap args)) (hN : LiesN w A1 vars A2 ports A3 of) (hM : LiesN w B1 mvars B2 mports B3 mof) (hW : WordsIs w) :
    Calls Tryd.prog 3 #[.agg #[.int .i64 op, .int .i64 n, .string nm, .string sb, .slice A args.length cap], .agg #[.slice A1 vars.length c1, .slice A2 ports.length c2, .bool bag, .slice A3 of.length c3], .agg #[.slice B1 mvars.length d1, .slice B2 mports.length d2, .bool mbag, .slice B3 mof.length d3]] w fun r w' => r = .returned (.bool true) ∧ Only [] w w' := by
  have h0 := Blk.new w 24 #[.int .i64 op, .int .i64 n, .string nm, .string sb, .slice A args.length cap]
  have h1 := Blk.new (w.alloc (.cells #[.int .i64 op, .int .i64 n, .string nm, .string sb, .slice A args.length cap] 24)) 28 #[.slice A1 vars.length c1, .slice A2 ports.length c2, .bool bag, .slice A3 of.length c3]
  have h2 := Blk.new ((w.alloc (.cells #[.int .i64 op, .int .i64 n, .string nm, .string sb, .slice A args.length cap] 24)).alloc (.cells #[.slice A1 vars.length c1, .slice A2 ports.length c2, .bool bag, .slice A3 of.length c3] 28)) 28 #[.slice B1 mvars.length d1, .slice B2 mports.length d2, .bool mbag, .slice B3 mof.length d3]
  simp only [World.size_alloc] at h1 h2
  have HX0 := Lib.hid (show Blk (((w.alloc (.cells #[.int .i64 op, .int .i64 n, .string nm, .string sb, .slice A args.length cap] 24)).alloc (.cells #[.slice A1 vars.length c1, .slice A2 ports.length c2, .bool bag, .slice A3 of.length c3] 28)).alloc (.cells #[.slice B1 mvars.length d1, .slice B2 mports.length d2, .bool mbag, .slice B3 mof.length d3] 28)) w.heap.size 24 #[.int .i64 op, .int .i64 n, .string nm, .string sb, .slice A args.length cap] from (h0.alloc _).alloc _)
  have HN0 := Lib.hid (show Blk (((w.alloc (.cells #[.int .i64 op, .int .i64 n, .string nm, .string sb, .slice A args.length cap] 24)).alloc (.cells #[.slice A1 vars.length c1, .slice A2 ports.length c2, .bool bag, .slice A3 of.length c3] 28)).alloc (.cells #[.slice B1 mvars.length d1, .slice B2 mports.length d2, .bool mbag, .slice B3 mof.length d3] 28)) (w.heap.size + 1) 28 #[.slice A1 vars.length c1, .slice A2 ports.length c2, .bool bag, .slice A3 of.length c3] from h1.alloc _)
  have HM0 := Lib.hid (show Blk (((w.alloc (.cells #[.int .i64 op, .int .i64 n, .string nm, .string sb, .slice A args.length cap] 24)).alloc (.cells #[.slice A1 vars.length c1, .slice A2 ports.length c2, .bool bag, .slice A3 of.length c3] 28)).alloc (.cells #[.slice B1 mvars.length d1, .slice B2 mports.length d2, .bool mbag, .slice B3 mof.length d3] 28)) (w.heap.size + 2) 28 #[.slice B1 mvars.length d1, .slice B2 mports.length d2, .bool mbag, .slice B3 mof.length d3] from h2)
  have HO0 := Lib.hid (show Only [] w (((w.alloc (.cells #[.int .i64 op, .int .i64 n, .string nm, .string sb, .slice A args.length cap] 24)).alloc (.cells #[.slice A1 vars.length c1, .slice A2 ports.length c2, .bool bag, .slice A3 of.length c3] 28)).alloc (.cells #[.slice B1 mvars.length d1, .slice B2 mports.length d2, .bool mbag, .slice B3 mof.length d3] 28)) from (((Only.refl [] w).alloc _).alloc _).alloc _)
  have HLE := Lib.hid hL
  have HNM := Lib.hid hN
  have HMM := Lib.hid hM
  have HWD := Lib.hid hW
  have HL0 := Lib.hid hN.low
  have HP0 := Lib.hid hN.ports.low.1
  obtain ⟨vs, hvs⟩ : ∃ l, vars ++ mvars = l := ⟨_, rfl⟩
  obtain ⟨ps, hps⟩ : ∃ l, ports ++ mports = l := ⟨_, rfl⟩
  obtain ⟨os, hos⟩ : ∃ l, of ++ mof = l := ⟨_, rfl⟩
  have HBL7 := Lib.hid (show ∀ e ∈ vs, ∀ b ∈ e.t.bks, b < w.heap.size from fun e he => by rw [← hvs] at he; rcases List.mem_append.1 he with h | h; exact hN.low.vars e h; exact hM.low.vars e h)
  have HBL8 := Lib.hid (show ∀ e ∈ ps, ∀ b ∈ e.t.bks, b < w.heap.size from fun e he => by rw [← hps] at he; rcases List.mem_append.1 he with h | h; exact hN.low.ports e h; exact hM.low.ports e h)
  have HBL9 := Lib.hid (show ∀ e ∈ os, ∀ b ∈ e.t.bks, b < w.heap.size from fun e he => by rw [← hos] at he; rcases List.mem_append.1 he with h | h; exact hN.low.of e h; exact hM.low.of e h)
  have HV7 := Lib.hid hvs
  have HV8 := Lib.hid hps
  have HV9 := Lib.hid hos
  have CS := Lib.hid (fun W (o : Only [] w W) => (show Calls Tryd.prog 8 #[.agg #[.int .i64 op, .int .i64 n, .string nm, .string sb, .slice A args.length cap]] W (fun r w' => (∃ b : Bool, r = .returned (.bool b)) ∧ Only [] W w') from small_any (e := .mk op n nm sb A cap args) (hL.keep o)))
  have CR9 := Lib.hid (fun W (o : Only [] w W) => (show Calls Tryd.prog 9 #[.agg #[.slice A1 vars.length c1, .slice A2 ports.length c2, .bool bag, .slice A3 of.length c3]] W (fun r w' => r = .returned (.bool (nsB vars ports of)) ∧ Only [] W w') from nsright_any (A1 := A1) (A2 := A2) (A3 := A3) (vars := vars) (ports := ports) (of := of) (c1 := c1) (c2 := c2) (bag := bag) (c3 := c3) (hN.keep o)))
  have CR9m := Lib.hid (fun W (o : Only [] w W) => (show Calls Tryd.prog 9 #[.agg #[.slice B1 mvars.length d1, .slice B2 mports.length d2, .bool mbag, .slice B3 mof.length d3]] W (fun r w' => r = .returned (.bool (nsB mvars mports mof)) ∧ Only [] W w') from nsright_any (A1 := B1) (A2 := B2) (A3 := B3) (vars := mvars) (ports := mports) (of := mof) (c1 := d1) (c2 := d2) (bag := mbag) (c3 := d3) (hM.keep o)))
  clear hL hN hM hW h0 h1 h2 hvs hps hos
  go_enter Tryd.func3, Tryd.ntmps3
  go_wp2_with (fail)
  refine (awake_any (HWD.out.keep HO0.out)).mono ?_
  rintro r w1 ⟨rfl, o1⟩
  have HO1 := Lib.hid (HO0.out.trans o1 (by simp))
  have HX1 := Lib.hid (o1.blk HX0.out (by simp))
  have HN1 := Lib.hid (o1.blk HN0.out (by simp))
  have HM1 := Lib.hid (o1.blk HM0.out (by simp))
  clear o1
  obtain ⟨x0, x1, x2, x3, x4, xl⟩ := HX1.out.facts5
  go_wp2_with (fail)
  refine (CS.out _ HO1.out).mono ?_
  rintro r w2 ⟨⟨b, rfl⟩, o2⟩
  have HO2 := Lib.hid (HO1.out.trans o2 (by simp))
  have HX2 := Lib.hid (o2.blk HX1.out (by simp))
  have HN2 := Lib.hid (o2.blk HN1.out (by simp))
  have HM2 := Lib.hid (o2.blk HM1.out (by simp))
  clear o2
  clear x0 x1 x2 x3 x4 xl
  cases b
  · go_wp2_with (fail)
    refine (awake_any (HWD.out.keep HO2.out)).mono ?_
    rintro r w9 ⟨rfl, o9⟩
    go_wp2_with (fail)
    go_ret
    exact ⟨rfl, HO2.out.trans o9 (by simp)⟩
  · obtain ⟨b0, b1, b2, b3, bl⟩ := HN2.out.facts4
    go_wp2_with (fail)
    refine (CR9.out _ HO2.out).mono ?_
    rintro r w3 ⟨rfl, o3⟩
    have HO3 := Lib.hid (HO2.out.trans o3 (by simp))
    have HX3 := Lib.hid (o3.blk HX2.out (by simp))
    have HN3 := Lib.hid (o3.blk HN2.out (by simp))
    have HM3 := Lib.hid (o3.blk HM2.out (by simp))
    clear o3
    clear b0 b1 b2 b3 bl
    obtain ⟨q, hq⟩ : ∃ q, nsB vars ports of = q := ⟨_, rfl⟩
    rw [hq]
    cases q
    · go_wp2_with (fail)
      refine (awake_any (HWD.out.keep HO3.out)).mono ?_
      rintro r w9 ⟨rfl, o9⟩
      go_wp2_with (fail)
      go_ret
      exact ⟨rfl, HO3.out.trans o9 (by simp)⟩
    · obtain ⟨m0, m1, m2, m3, ml⟩ := HM3.out.facts4
      go_wp2_with (fail)
      refine (CR9m.out _ HO3.out).mono ?_
      rintro r w4 ⟨rfl, o4⟩
      have HO4 := Lib.hid (HO3.out.trans o4 (by simp))
      have HX4 := Lib.hid (o4.blk HX3.out (by simp))
      have HN4 := Lib.hid (o4.blk HN3.out (by simp))
      have HM4 := Lib.hid (o4.blk HM3.out (by simp))
      clear o4
      clear m0 m1 m2 m3 ml
      obtain ⟨qm, hqm⟩ : ∃ q, nsB mvars mports mof = q := ⟨_, rfl⟩
      rw [hqm]
      cases qm
      · go_wp2_with (fail)
        refine (awake_any (HWD.out.keep HO4.out)).mono ?_
        rintro r w9 ⟨rfl, o9⟩
        go_wp2_with (fail)
        go_ret
        exact ⟨rfl, HO4.out.trans o9 (by simp)⟩
      · have HOK := Lib.hid (nsB_ok hq).1
        have HOM := Lib.hid (nsB_ok hqm).1
        have HLN := Lib.hid (show vars.length + mvars.length ≤ 200 ∧ ports.length + mports.length ≤ 200 ∧ of.length + mof.length ≤ 200 from by have := (nsB_ok hq).2; have := (nsB_ok hqm).2; omega)
        have HOA := Lib.hid (show OkN vs ps os from by rw [← HV7.out, ← HV8.out, ← HV9.out]; exact (nsB_ok hq).1.app (nsB_ok hqm).1 (nsB_ok hq).2 (nsB_ok hqm).2)
        clear hq hqm
        go_wp2_with (fail)
        obtain ⟨wq, hwq⟩ : ∃ wq : World, wq = w4 := ⟨_, rfl⟩
        subst hwq
        have HLW := Lib.hid (HL0.out.mono HO4.out.size)
        have HPL := Lib.hid (show ∀ (i : Nat) e, ports[i]? = some e → ∀ p, A2 = some p → p.block < wq.heap.size from fun i e he p hp => Nat.lt_of_lt_of_le (HP0.out i e he p hp) HO4.out.size)
        have HB6 := Lib.hid HO4.out.size
        have HNMq := Lib.hid (HNM.out.keep HO4.out)
        obtain ⟨pe, hpe⟩ : ∃ pe, (Ex.mk op n nm sb A cap args).tr.type ⟨vars.map Vr.tr, ports.map Pr.tr, bag, of.map Vr.tr⟩ = pe := ⟨_, rfl⟩
        have CO := Lib.hid (fun W (o : Only [] wq W) => (show Calls Tryd.prog 11 #[.agg #[.slice A1 vars.length c1, .slice A2 ports.length c2, .bool bag, .slice A3 of.length c3]] W (fun r w' => ∃ A1' c1' A3' c3', r = .returned (.agg #[.slice A1' vars.length c1', .slice A2 ports.length c2, .bool bag, .slice A3' of.length c3']) ∧ LiesN w' A1' vars A2 ports A3' of ∧ (∀ p, A1' = some p → W.heap.size ≤ p.block) ∧ (∀ p, A3' = some p → W.heap.size ≤ p.block) ∧ Only [] W w') from of_any (A1 := A1) (A2 := A2) (A3 := A3) (vars := vars) (ports := ports) (of := of) (c1 := c1) (c2 := c2) (bag := bag) (c3 := c3) (by have := HOK.out.l1; omega) (by have := HOK.out.l3; omega) (HNMq.out.keep o)))
        have CT := Lib.hid (fun A1' c1' A3' c3' W (o : Only [] wq W) (hl : LiesN W A1' vars A2 ports A3' of) => (show Calls Tryd.prog 10 #[.agg #[.int .i64 op, .int .i64 n, .string nm, .string sb, .slice A args.length cap], .agg #[.slice A1' vars.length c1', .slice A2 ports.length c2, .bool bag, .slice A3' of.length c3']] W fun r w' => RK w.heap.size W pe r w' from by rw [← hpe]; exact type_any (B0 := w.heap.size) (c1 := c1') (c2 := c2) (bag := bag) (c3 := c3') (e := .mk op n nm sb A cap args) HOK.out (HO4.out.trans o (by simp)).size (HLE.out.keep (HO4.out.trans o (by simp))) (HWD.out.keep (HO4.out.trans o (by simp))) hl))
        have HPE := Lib.hid hpe
        have HTO := Lib.hid (show pe.1.ok 3 = true from by rw [← hpe]; exact type_ok (HOK.out.nm bag) _)
        clear hpe
        refine (wpIn_wide (n := 9)).1 ?_
        refine wpIn_region_relG 9 (RelF wq.heap.size) (V9 wq) (FL w.heap.size wq pe (.agg #[.int .i64 op, .int .i64 n, .string nm, .string sb, .slice A args.length cap]) (.agg #[.slice A1 vars.length c1, .slice A2 ports.length c2, .bool bag, .slice A3 of.length c3]) (OfAt vars ports of A2 c2 bag)) none (fr := ?frt3) (tl := ?tlt3) (.inl rfl) (by kernel_rfl) (by kernel_rfl) (by kernel_rfl) (by kernel_rfl) (by kernel_rfl) (by kernel_rfl) (by decide) ?htlt3 ?hfrt3 (RelF.of (Only.refl _ _)) (fun _ _ _ h k => h.trans k) (fun tb hg => by cases hg) ?stepst3 ?donet3
        case htlt3 => simp only [List.drop_succ_cons, List.drop_zero]; rfl
        case hfrt3 => intro vals; simp only [putAll, dstAt, Act.put, List.getElem?_toArray, List.getElem?_cons_zero, List.getElem?_cons_succ, Option.bind_some, List.setIfInBounds_toArray, List.set_cons_zero, List.set_cons_succ]; rfl
        case stepst3 =>
          refine ⟨?_, ?_, ?_, ?_, ?_, ?_, ?_, ?_, ?_, trivial⟩
          · intro g vals wr hR hV hp K hK
            dsimp only at hK ⊢
            replace hR := hR.only (Nat.le_refl _)
            clear hp
            unfold RunsOp
            obtain ⟨k0, k1, k2, k3, k4, kl⟩ := (hR.blk (Blk.drew HX4.out) (by simp)).facts5
            go_simp
            exact hK.out _ _ ⟨_, g, rfl, RelF.of (Only.refl _ _), hV, rfl, fun _ _ _ _ h => h⟩
          · intro g vals wr hR hV hp K hK
            dsimp only at hK ⊢
            replace hR := hR.only (Nat.le_refl _)
            clear hp
            unfold RunsOp
            obtain ⟨k0, k1, k2, k3, kl⟩ := (hR.blk (Blk.drew HN4.out) (by simp)).facts4
            go_simp
            exact hK.out _ _ ⟨_, g, rfl, RelF.of (Only.refl _ _), hV, rfl, fun _ _ _ _ h => h⟩
          · intro g vals wr hR hV hp K hK
            dsimp only at hK ⊢
            replace hR := hR.only (Nat.le_refl _)
            obtain ⟨p1, -⟩ := hp
            replace p1 := p1 rfl
            replace p1 : vals 1 = .agg #[.slice A1 vars.length c1, .slice A2 ports.length c2, .bool bag, .slice A3 of.length c3] := p1
            rw [p1] at hK ⊢
            clear p1
            unfold RunsOp
            have HV := Lib.hid hV
            clear hV
            go_simp
            refine (CO.out _ ((Only.refl [] _).drew.trans hR (by simp))).mono ?_
            rintro e' w2 ⟨A1', c1', A3', c3', rfl, hl, n1', n3', o2⟩
            exact hK.out _ _ ⟨_, g, rfl, RelF.of o2, HV.out.keep o2, ⟨A1', c1', A3', c3', rfl, hl, fun tb hg => by obtain ⟨h1, c0, c1, h1'⟩ := HV.out tb hg; have h2 := h1'.lt; exact ⟨fun i e he p hp => by have := n1' p hp; omega, fun i e he p hp => by have := n3' p hp; omega⟩⟩, fun _ _ _ _ h => FL.keep o2 (OfAt.keep o2) h⟩
          · intro g vals wr hR hV hp K hK
            dsimp only at hK ⊢
            replace hR := hR.only (Nat.le_refl _)
            obtain ⟨p0, p2, -, -⟩ := hp
            replace p0 := p0 rfl
            replace p2 := p2 rfl
            replace p0 : vals 0 = .agg #[.int .i64 op, .int .i64 n, .string nm, .string sb, .slice A args.length cap] := p0
            obtain ⟨A1', c1', A3', c3', e2, hl2, -⟩ := p2
            rw [p0, e2] at hK ⊢
            clear p0 e2
            unfold RunsOp
            have HV := Lib.hid hV
            have HL2 := Lib.hid hl2
            clear hV hl2
            go_simp
            refine (CT.out _ _ _ _ _ ((Only.refl [] _).drew.trans hR (by simp)) HL2.out).mono ?_
            rintro e' w2 ⟨yk, yA, ycap, yl, rfl, hc, o2⟩
            exact hK.out _ _ ⟨_, g, rfl, RelF.of o2, HV.out.keep o2, ⟨yk, yA, ycap, yl, rfl, hc.low hR.size, fun tb hg hm => by obtain ⟨h1, c0, c1, h1'⟩ := HV.out tb hg; have h2 := h1'.lt; have h3 := HB6.out; rcases hc.off tb hm with h | h <;> omega⟩, fun _ _ _ _ h => FL.keep o2 (OfAt.keep o2) h⟩
          · intro g vals wr hR hV hp K hK
            dsimp only at hK ⊢
            replace hR := hR.only (Nat.le_refl _)
            obtain ⟨p3, -⟩ := hp
            replace p3 := p3 rfl
            obtain ⟨yk, yA, ycap, yl, e3, hc3, hn3⟩ := p3
            rw [e3] at hK ⊢
            clear e3
            unfold RunsOp
            have HC := Lib.hid (And.intro hc3 hn3)
            clear hc3 hn3
            go_simp
            exact hK.out _ _ ⟨_, g, rfl, RelF.of (Only.refl _ _), hV, ⟨yk, yA, ycap, yl, rfl, HC.out.1, HC.out.2⟩, fun _ _ _ _ h => h⟩
          · intro g vals wr hR hV hp K hK
            dsimp only at hK ⊢
            replace hR := hR.only (Nat.le_refl _)
            obtain ⟨p4, -⟩ := hp
            replace p4 := p4 rfl
            obtain ⟨yk, yA, ycap, yl, e4, hc4, hn4⟩ := p4
            rw [e4] at hK ⊢
            clear e4
            unfold RunsOp
            have HC := Lib.hid (And.intro hc4 hn4)
            clear hc4 hn4
            go_simp
            exact hK.out _ _ ⟨_, g, rfl, RelF.of (Only.refl _ _), hV, ⟨yk, yA, ycap, yl, rfl, HC.out.1, HC.out.2⟩, fun _ _ _ _ h => h⟩
          · intro g vals wr hR hV hp K hK
            dsimp only at hK ⊢
            replace hR := hR.only (Nat.le_refl _)
            obtain ⟨p4, -, -⟩ := hp
            replace p4 := p4 rfl
            obtain ⟨yk, yA, ycap, yl, e4, hc4, hn4⟩ := p4
            rw [e4] at hK ⊢
            clear e4
            unfold RunsOp
            clear hc4 hn4
            go_simp
            exact hK.out _ _ ⟨_, g, rfl, RelF.of (Only.refl _ _), hV, rfl, fun _ _ _ _ h => h⟩
          · intro g vals wr hR hV hp K hK
            dsimp only at hK ⊢
            replace hR := hR.only (Nat.le_refl _)
            clear hp
            unfold RunsOp
            have HV := Lib.hid hV
            clear hV
            have ho := (show Only [] wr (wr.alloc (.cells #[.int .i64 0, .slice none 0 0] 34)) from (Only.refl _ _).alloc _)
            have hb := Blk.new wr 34 #[.int .i64 0, .slice none 0 0]
            have HH := Lib.hid (And.intro ho (And.intro hb hR.size))
            clear ho hb
            go_simp
            exact hK.out _ _ ⟨_, some wr.heap.size, rfl, RelF.of HH.out.1, fun tb hg => by injection hg with hg; subst hg; exact ⟨HH.out.2.2, _, _, HH.out.2.1⟩, ⟨_, rfl, rfl⟩, fun j u hj hn h => FL.laid hj (fun e => by subst e; exact Bool.noConfusion ((show _ = true by kernel_rfl).symm.trans hn)) HH.out.1 (OfAt.laid HH.out.1) h⟩
          · intro g vals wr hR hV hp K hK
            dsimp only at hK ⊢
            replace hR := hR.only (Nat.le_refl _)
            obtain ⟨p7, p5, -, -, -, -, -, -, -, -, -, -⟩ := hp
            replace p7 := p7 rfl
            replace p5 := p5 rfl
            obtain ⟨tb, hg, e7⟩ := p7
            obtain ⟨yk, yA, ycap, yl, e5, hc5, hn5⟩ := p5
            rw [e7, e5] at hK ⊢
            clear e7 e5
            unfold RunsOp
            obtain ⟨hvl, c0, c1, hvb⟩ := hV tb hg
            obtain ⟨t0, t1, tl⟩ := hvb.facts2
            have tg0 := hvb.frozen 0
            have tg1 := hvb.frozen 1
            have ho : Only [tb] wr ((wr.setCell ⟨tb, 0, none⟩ (.int .i64 yk)).setCell ⟨tb, 1, none⟩ (.slice yA yl.length ycap)) := ((Only.refl [tb] wr).setCell (.inl (by simp)) _).setCell (.inl (by simp)) _
            have hb := (hvb.set_ 0 (.int .i64 yk)).set_ 1 (.slice yA yl.length ycap)
            have HC := Lib.hid (And.intro hc5 (hn5 tb hg))
            have HH := Lib.hid (And.intro ho (And.intro hb (And.intro hvl hV)))
            clear ho hb hvb hV hc5 hn5 hvl
            go_simp
            exact hK.out _ _ ⟨.int .i64 0, g, rfl, ⟨[tb], fun x hx => by simp at hx; subst hx; exact HH.out.2.2.1, HH.out.1⟩, fun tb' hg' => by obtain rfl : tb = tb' := (by rw [hg] at hg'; injection hg'); exact ⟨HH.out.2.2.1, _, _, HH.out.2.1⟩, ⟨tb, yk, yA, ycap, yl, hg, HH.out.2.1, ⟨HC.out.1.tr, HC.out.1.lies.only HH.out.1 (fun x hx hm => by simp at hm; subst hm; exact HC.out.2 hx), HC.out.1.off⟩, HC.out.2⟩, fun _ _ hj _ h => FL.set hg hj HH.out.1 (OfAt.set HLW.out HPL.out HH.out.2.2.1 hg HH.out.1) h⟩
        case donet3 =>
          intro g vals wd9 hR hV hF
          have f6 : vals 6 = .int .i64 pe.2 := hF 6 (by decide)
          obtain ⟨tb, hg, f7⟩ := hF 7 (by decide)
          obtain ⟨tb', yk, yA, ycap, yl, hg', hTB, hTK, hnb⟩ := hF 8 (by decide)
          obtain rfl : tb = tb' := (by rw [hg] at hg'; injection hg')
          have HTL := Lib.hid (hV tb hg).1
          replace hR := hR.only (Nat.le_refl _)
          rw [f6, f7]
          clear f6 f7
          have HR := Lib.hid ((Only.refl [] _).drew.trans hR (by simp))
          have HTB := Lib.hid hTB
          have HTK := Lib.hid hTK
          have HNB := Lib.hid hnb
          clear hR hV hF hg hg' hTK hnb hTB
          obtain ⟨p1, p2⟩ := pe
          dsimp only at HPE HTO HTK ⊢
          have HX5 := Lib.hid (HR.out.blk HX4.out (by simp))
          have HN5 := Lib.hid (HR.out.blk HN4.out (by simp))
          have HM5 := Lib.hid (HR.out.blk HM4.out (by simp))
          have HO5 := Lib.hid (HO4.out.trans HR.out (by simp))
          by_cases hp0 : p2 = 0
          · subst hp0
            cases bag
            · obtain ⟨b0, b1, b2, b3, bl⟩ := HN5.out.facts4
              obtain ⟨m0, m1, m2, m3, ml⟩ := HM5.out.facts4
              gi_wp2_with (fail)
              go_wp2_with (fail)
              clear b0 b1 b2 b3 bl
              clear m0 m1 m2 m3 ml
              have HTz := Lib.hid (Blk.new wd9 28 #[.slice none 0 0, .slice none 0 0, .bool mbag, .slice none 0 0])
              have HNB9 := Lib.hid (show w.heap.size + 3 ≤ wd9.heap.size from by have := HM5.out.lt; omega)
              have HP6 := Lib.hid (show Only [] wd9 (wd9.alloc (.cells #[.slice none 0 0, .slice none 0 0, .bool mbag, .slice none 0 0] 28)) from (Only.refl [] wd9).alloc _)
              obtain ⟨w6, hw6⟩ : ∃ W : World, wd9.alloc (.cells #[.slice none 0 0, .slice none 0 0, .bool mbag, .slice none 0 0] 28) = W := ⟨_, rfl⟩
              rw [hw6] at HTz HP6 ⊢
              clear hw6
              obtain ⟨nb, hnb⟩ : ∃ nb, wd9.heap.size = nb := ⟨_, rfl⟩
              have HNB8 := Lib.hid (Nat.le_of_eq hnb)
              rw [hnb] at HTz HNB9 ⊢
              clear hnb
              have HT6 := HTz
              clear HTz
              have HX6 := Lib.hid (HP6.out.blk HX5.out (by simp))
              have HN6 := Lib.hid (HP6.out.blk HN5.out (by simp))
              have HM6 := Lib.hid (HP6.out.blk HM5.out (by simp))
              have HQ6 := Lib.hid (HO5.out.trans HP6.out (by simp))
              have HRA7 := Lib.hid (HNM.out.vars.keep HQ6.out)
              have HRB7 := Lib.hid (HMM.out.vars.keep HQ6.out)
              refine (wpIn_wide (n := 9)).1 ?_
              refine wpIn_region_relR 7 (Only []) (fr := ?fra7u) (tl := ?tla7u) (fun iq v wv => match iq with
                | 0 => v = .pointer (some ⟨nb, 0, none⟩)
                | 1 => v = .slice none 0 0
                | 2 => v = .pointer (some ⟨w.heap.size + 1, 0, none⟩)
                | 3 => v = .slice A1 vars.length c1
                | 4 => ∃ A' c', v = .slice A' vars.length c' ∧ wv.ownsRow w6.heap.size 66 4 (.slice A' vars.length c') vars.length (flatG Vr.cs vars)
                | 5 => v = .pointer (some ⟨w.heap.size + 2, 0, none⟩)
                | 6 => v = .slice B1 mvars.length d1
                | _ => True) (.inl rfl) (by kernel_rfl) (by kernel_rfl) (by kernel_rfl) (by kernel_rfl) (by kernel_rfl) (by kernel_rfl) (by decide) ?htla7u ?hfra7u (Only.refl _ _) (fun _ _ _ h k => h.trans k (fun _ hx => .inl hx)) ?staba7u ?stepsa7u ?donea7u
              case htla7u => simp only [List.drop_succ_cons, List.drop_zero]; rfl
              case hfra7u => intro vals; simp only [putAll, dstAt, Act.put, List.getElem?_toArray, List.getElem?_cons_zero, List.getElem?_cons_succ, Option.bind_some, List.setIfInBounds_toArray, List.set_cons_zero, List.set_cons_succ]; rfl
              case staba7u =>
                intro i v wa wb h
                try dsimp only
                split <;> first | exact id | (rintro ⟨A', c', h1, h2⟩; exact ⟨A', c', h1, ownsRow_only h h2 (fun _ _ => by simp)⟩)
              case stepsa7u =>
                refine ⟨?_, ?_, ?_, ?_, ?_, ?_, ?_, trivial⟩
                · intro vals wr hR hp K hK
                  dsimp only at hK ⊢
                  clear hp
                  unfold RunsOp
                  go_simp
                  exact hK.out _ _ ⟨_, rfl, Only.refl _ _, rfl⟩
                · intro vals wr hR hp K hK
                  dsimp only at hK ⊢
                  obtain ⟨p0, -⟩ := hp
                  replace p0 := p0 rfl
                  dsimp only at p0
                  rw [p0] at hK ⊢
                  clear p0
                  unfold RunsOp
                  obtain ⟨k0, k1, k2, k3, kl⟩ := (hR.blk (Blk.drew HT6.out) (by simp)).facts4
                  go_simp
                  exact hK.out _ _ ⟨_, rfl, Only.refl _ _, rfl⟩
                · intro vals wr hR hp K hK
                  dsimp only at hK ⊢
                  clear hp
                  unfold RunsOp
                  go_simp
                  exact hK.out _ _ ⟨_, rfl, Only.refl _ _, rfl⟩
                · intro vals wr hR hp K hK
                  dsimp only at hK ⊢
                  obtain ⟨p2, -⟩ := hp
                  replace p2 := p2 rfl
                  dsimp only at p2
                  rw [p2] at hK ⊢
                  clear p2
                  unfold RunsOp
                  obtain ⟨k0, k1, k2, k3, kl⟩ := (hR.blk (Blk.drew HN6.out) (by simp)).facts4
                  go_simp
                  exact hK.out _ _ ⟨_, rfl, Only.refl _ _, rfl⟩
                · intro vals wr hR hp K hK
                  dsimp only at hK ⊢
                  obtain ⟨p1, p3, -⟩ := hp
                  replace p1 := p1 rfl
                  replace p3 := p3 rfl
                  dsimp only at p1 p3
                  rw [p1, p3] at hK ⊢
                  clear p1 p3
                  unfold RunsOp
                  obtain ⟨A5, c5, w5, hrun, ho5, oo5⟩ := run_app0 Vr.cs vcs_len vcs_one Tryd.underlying25 infoV66 rfl (by omega) (by omega) (w := wr) w6.heap.size (cz := c1) (AS := A1) (M := vars) ((HRA7.out.keep ((Only.refl [] _).drew.trans hR (by simp))).src) (by have := HLN.out; omega) hR.size
                  refine runs_append hrun rfl _ _ rfl rfl rfl rfl ?_
                  exact hK.out _ _ ⟨_, rfl, oo5, _, _, rfl, ho5⟩
                · intro vals wr hR hp K hK
                  dsimp only at hK ⊢
                  clear hp
                  unfold RunsOp
                  go_simp
                  exact hK.out _ _ ⟨_, rfl, Only.refl _ _, rfl⟩
                · intro vals wr hR hp K hK
                  dsimp only at hK ⊢
                  obtain ⟨p5, -⟩ := hp
                  replace p5 := p5 rfl
                  dsimp only at p5
                  rw [p5] at hK ⊢
                  clear p5
                  unfold RunsOp
                  obtain ⟨k0, k1, k2, k3, kl⟩ := (hR.blk (Blk.drew HM6.out) (by simp)).facts4
                  go_simp
                  exact hK.out _ _ ⟨_, rfl, Only.refl _ _, rfl⟩
              case donea7u =>
                intro vals wd hR hF
                have f0 : vals 0 = .pointer (some ⟨nb, 0, none⟩) := hF 0 (by decide)
                have f1 : vals 1 = .slice none 0 0 := hF 1 (by decide)
                have f2 : vals 2 = .pointer (some ⟨w.heap.size + 1, 0, none⟩) := hF 2 (by decide)
                have f3 : vals 3 = .slice A1 vars.length c1 := hF 3 (by decide)
                have f5 : vals 5 = .pointer (some ⟨w.heap.size + 2, 0, none⟩) := hF 5 (by decide)
                have f6 : vals 6 = .slice B1 mvars.length d1 := hF 6 (by decide)
                rw [f0, f1, f2, f3, f5, f6]
                clear f0 f1 f2 f3 f5 f6
                obtain ⟨A', c', f4, ho4⟩ := hF 4 (by decide)
                rw [f4]
                have HRl := Lib.hid ((Only.refl [] _).drew.trans hR (by simp))
                obtain ⟨A5r7, c5r7, w5, hrun, ho5, oo5⟩ := run_appS Vr.cs vcs_len vcs_one Tryd.underlying25 infoV66 rfl (by omega) (by omega) (w := wd) (cz := d1) (AS := B1) (L := vars) (M := mvars) ho4 ((HRB7.out.keep HRl.out).src) (by have := HLN.out; omega) HRl.out.size
                have HB5 := Lib.hid (fun p (hp : A' = some p) => (show w6.heap.size ≤ p.block from by subst hp; exact (ho4.lt p.block rfl).1))
                have HA5r7 := Lib.hid (fun p (hp : A5r7 = some p) => (show w6.heap.size ≤ p.block from by subst hp; exact (ho5.lt p.block rfl).1))
                have HO5 := Lib.hid (show Only [] w6 w5 from HRl.out.trans oo5 (fun x hx => .inr (by
                  cases A' with
                  | none => simp at hx
                  | some p => simp at hx; subst hx; exact HB5.out p rfl)))
                have HR5 := Lib.hid (RowVr.ofApp ho5 (HRA7.out.keep HO5.out) (HRB7.out.keep HO5.out) (by have := HLN.out; rw [List.length_append]; omega))
                rw [HV7.out] at hrun HR5
                have HT5 := Lib.hid (HO5.out.blk HT6.out (by simp))
                clear hR hF f4 ho4 ho5 oo5 HB5 HRl
                obtain ⟨t0, t1, t2, t3, tl⟩ := HT5.out.facts4
                have tg0 := HT5.out.frozen 0
                have tg1 := HT5.out.frozen 1
                have tg2 := HT5.out.frozen 2
                have tg3 := HT5.out.frozen 3
                gi_wp2_with (gi_at_builtin; refine wpListIn_append_run hrun rfl _ _ rfl rfl rfl rfl ?_)
                go_wp2_with (fail)
                have hset := HT5.out.set_ 0 (.slice A5r7 vs.length c5r7)
                have oset : Only [nb] w5 (w5.setCell ⟨nb, 0, none⟩ (.slice A5r7 vs.length c5r7)) := (Only.refl [nb] w5).setCell (.inl (by simp)) _
                obtain ⟨w7, hw7⟩ : ∃ W : World, w5.setCell ⟨nb, 0, none⟩ (.slice A5r7 vs.length c5r7) = W := ⟨_, rfl⟩
                rw [hw7] at hset oset ⊢
                clear hw7 t0 t1 t2 t3 tl tg0 tg1 tg2 tg3 hrun
                have HT7 := Lib.hid hset
                have HQ7 := Lib.hid (show Only [] w w7 from (HQ6.out.trans HO5.out (by simp)).trans oset (fun x hx => .inr (by simp at hx; have := HNB9.out; omega)))
                have HP7 := Lib.hid (show Only [] wd9 w7 from (HP6.out.trans HO5.out (by simp)).trans oset (fun x hx => .inr (by simp at hx; have := HNB8.out; omega)))
                have HS7 := Lib.hid (show Only [nb] w6 w7 from (HO5.out.mono (fun _ h => by simp at h)).trans oset (fun x hx => .inl hx))
                have HN7 := Lib.hid (HS7.out.blk HN6.out (by simp; have := HNB9.out; omega))
                have HM7 := Lib.hid (HS7.out.blk HM6.out (by simp; have := HNB9.out; omega))
                have HX7 := Lib.hid (HS7.out.blk HX6.out (by simp; have := HNB9.out; omega))
                have HRW7v7 := Lib.hid (HR5.out.onlyG oset (fun i e he p hp => by have := HA5r7.out p hp; have := HT6.out.lt; simp; omega) (fun e he b hb => by have := HBL7.out e he b hb; have := HNB9.out; simp; omega))
                have HTL7 := Lib.hid HT6.out.lt
                clear hset oset HR5 HO5 HT5
                have HRA8 := Lib.hid (HNM.out.ports.keep HQ7.out)
                have HRB8 := Lib.hid (HMM.out.ports.keep HQ7.out)
                refine (wpIn_wide (n := 9)).1 ?_
                refine wpIn_region_relR 7 (Only []) (fr := ?fra8u) (tl := ?tla8u) (fun iq v wv => match iq with
                  | 0 => v = .pointer (some ⟨nb, 1, none⟩)
                  | 1 => v = .slice none 0 0
                  | 2 => v = .pointer (some ⟨w.heap.size + 1, 1, none⟩)
                  | 3 => v = .slice A2 ports.length c2
                  | 4 => ∃ A' c', v = .slice A' ports.length c' ∧ wv.ownsRow w7.heap.size 68 3 (.slice A' ports.length c') ports.length (flatG Pr.cs ports)
                  | 5 => v = .pointer (some ⟨w.heap.size + 2, 1, none⟩)
                  | 6 => v = .slice B2 mports.length d2
                  | _ => True) (.inl rfl) (by kernel_rfl) (by kernel_rfl) (by kernel_rfl) (by kernel_rfl) (by kernel_rfl) (by kernel_rfl) (by decide) ?htla8u ?hfra8u (Only.refl _ _) (fun _ _ _ h k => h.trans k (fun _ hx => .inl hx)) ?staba8u ?stepsa8u ?donea8u
                case htla8u => simp only [List.drop_succ_cons, List.drop_zero]; rfl
                case hfra8u => intro vals; simp only [putAll, dstAt, Act.put, List.getElem?_toArray, List.getElem?_cons_zero, List.getElem?_cons_succ, Option.bind_some, List.setIfInBounds_toArray, List.set_cons_zero, List.set_cons_succ]; rfl
                case staba8u =>
                  intro i v wa wb h
                  try dsimp only
                  split <;> first | exact id | (rintro ⟨A', c', h1, h2⟩; exact ⟨A', c', h1, ownsRow_only h h2 (fun _ _ => by simp)⟩)
                case stepsa8u =>
                  refine ⟨?_, ?_, ?_, ?_, ?_, ?_, ?_, trivial⟩
                  · intro vals wr hR hp K hK
                    dsimp only at hK ⊢
                    clear hp
                    unfold RunsOp
                    go_simp
                    exact hK.out _ _ ⟨_, rfl, Only.refl _ _, rfl⟩
                  · intro vals wr hR hp K hK
                    dsimp only at hK ⊢
                    obtain ⟨p0, -⟩ := hp
                    replace p0 := p0 rfl
                    dsimp only at p0
                    rw [p0] at hK ⊢
                    clear p0
                    unfold RunsOp
                    obtain ⟨k0, k1, k2, k3, kl⟩ := (hR.blk (Blk.drew HT7.out) (by simp)).facts4
                    go_simp
                    exact hK.out _ _ ⟨_, rfl, Only.refl _ _, rfl⟩
                  · intro vals wr hR hp K hK
                    dsimp only at hK ⊢
                    clear hp
                    unfold RunsOp
                    go_simp
                    exact hK.out _ _ ⟨_, rfl, Only.refl _ _, rfl⟩
                  · intro vals wr hR hp K hK
                    dsimp only at hK ⊢
                    obtain ⟨p2, -⟩ := hp
                    replace p2 := p2 rfl
                    dsimp only at p2
                    rw [p2] at hK ⊢
                    clear p2
                    unfold RunsOp
                    obtain ⟨k0, k1, k2, k3, kl⟩ := (hR.blk (Blk.drew HN7.out) (by simp)).facts4
                    go_simp
                    exact hK.out _ _ ⟨_, rfl, Only.refl _ _, rfl⟩
                  · intro vals wr hR hp K hK
                    dsimp only at hK ⊢
                    obtain ⟨p1, p3, -⟩ := hp
                    replace p1 := p1 rfl
                    replace p3 := p3 rfl
                    dsimp only at p1 p3
                    rw [p1, p3] at hK ⊢
                    clear p1 p3
                    unfold RunsOp
                    obtain ⟨A5, c5, w5, hrun, ho5, oo5⟩ := run_app0 Pr.cs pcs_len pcs_one Tryd.underlying26 infoP68 rfl (by omega) (by omega) (w := wr) w7.heap.size (cz := c2) (AS := A2) (M := ports) ((HRA8.out.keep ((Only.refl [] _).drew.trans hR (by simp))).src) (by have := HLN.out; omega) hR.size
                    refine runs_append hrun rfl _ _ rfl rfl rfl rfl ?_
                    exact hK.out _ _ ⟨_, rfl, oo5, _, _, rfl, ho5⟩
                  · intro vals wr hR hp K hK
                    dsimp only at hK ⊢
                    clear hp
                    unfold RunsOp
                    go_simp
                    exact hK.out _ _ ⟨_, rfl, Only.refl _ _, rfl⟩
                  · intro vals wr hR hp K hK
                    dsimp only at hK ⊢
                    obtain ⟨p5, -⟩ := hp
                    replace p5 := p5 rfl
                    dsimp only at p5
                    rw [p5] at hK ⊢
                    clear p5
                    unfold RunsOp
                    obtain ⟨k0, k1, k2, k3, kl⟩ := (hR.blk (Blk.drew HM7.out) (by simp)).facts4
                    go_simp
                    exact hK.out _ _ ⟨_, rfl, Only.refl _ _, rfl⟩
                case donea8u =>
                  intro vals wd hR hF
                  have f0 : vals 0 = .pointer (some ⟨nb, 1, none⟩) := hF 0 (by decide)
                  have f1 : vals 1 = .slice none 0 0 := hF 1 (by decide)
                  have f2 : vals 2 = .pointer (some ⟨w.heap.size + 1, 1, none⟩) := hF 2 (by decide)
                  have f3 : vals 3 = .slice A2 ports.length c2 := hF 3 (by decide)
                  have f5 : vals 5 = .pointer (some ⟨w.heap.size + 2, 1, none⟩) := hF 5 (by decide)
                  have f6 : vals 6 = .slice B2 mports.length d2 := hF 6 (by decide)
                  rw [f0, f1, f2, f3, f5, f6]
                  clear f0 f1 f2 f3 f5 f6
                  obtain ⟨A', c', f4, ho4⟩ := hF 4 (by decide)
                  rw [f4]
                  have HRl := Lib.hid ((Only.refl [] _).drew.trans hR (by simp))
                  obtain ⟨A5r8, c5r8, w5, hrun, ho5, oo5⟩ := run_appS Pr.cs pcs_len pcs_one Tryd.underlying26 infoP68 rfl (by omega) (by omega) (w := wd) (cz := d2) (AS := B2) (L := ports) (M := mports) ho4 ((HRB8.out.keep HRl.out).src) (by have := HLN.out; omega) HRl.out.size
                  have HB5 := Lib.hid (fun p (hp : A' = some p) => (show w7.heap.size ≤ p.block from by subst hp; exact (ho4.lt p.block rfl).1))
                  have HA5r8 := Lib.hid (fun p (hp : A5r8 = some p) => (show w7.heap.size ≤ p.block from by subst hp; exact (ho5.lt p.block rfl).1))
                  have HO5 := Lib.hid (show Only [] w7 w5 from HRl.out.trans oo5 (fun x hx => .inr (by
                    cases A' with
                    | none => simp at hx
                    | some p => simp at hx; subst hx; exact HB5.out p rfl)))
                  have HR5 := Lib.hid (RowPr.ofApp ho5 (HRA8.out.keep HO5.out) (HRB8.out.keep HO5.out) (by have := HLN.out; rw [List.length_append]; omega))
                  rw [HV8.out] at hrun HR5
                  have HT5 := Lib.hid (HO5.out.blk HT7.out (by simp))
                  clear hR hF f4 ho4 ho5 oo5 HB5 HRl
                  obtain ⟨t0, t1, t2, t3, tl⟩ := HT5.out.facts4
                  have tg0 := HT5.out.frozen 0
                  have tg1 := HT5.out.frozen 1
                  have tg2 := HT5.out.frozen 2
                  have tg3 := HT5.out.frozen 3
                  gi_wp2_with (gi_at_builtin; refine wpListIn_append_run hrun rfl _ _ rfl rfl rfl rfl ?_)
                  go_wp2_with (fail)
                  have hset := HT5.out.set_ 1 (.slice A5r8 ps.length c5r8)
                  have oset : Only [nb] w5 (w5.setCell ⟨nb, 1, none⟩ (.slice A5r8 ps.length c5r8)) := (Only.refl [nb] w5).setCell (.inl (by simp)) _
                  obtain ⟨w8, hw8⟩ : ∃ W : World, w5.setCell ⟨nb, 1, none⟩ (.slice A5r8 ps.length c5r8) = W := ⟨_, rfl⟩
                  rw [hw8] at hset oset ⊢
                  clear hw8 t0 t1 t2 t3 tl tg0 tg1 tg2 tg3 hrun
                  have HT8 := Lib.hid hset
                  have HQ8 := Lib.hid (show Only [] w w8 from (HQ7.out.trans HO5.out (by simp)).trans oset (fun x hx => .inr (by simp at hx; have := HNB9.out; omega)))
                  have HP8 := Lib.hid (show Only [] wd9 w8 from (HP7.out.trans HO5.out (by simp)).trans oset (fun x hx => .inr (by simp at hx; have := HNB8.out; omega)))
                  have HS8 := Lib.hid (show Only [nb] w7 w8 from (HO5.out.mono (fun _ h => by simp at h)).trans oset (fun x hx => .inl hx))
                  have HN8 := Lib.hid (HS8.out.blk HN7.out (by simp; have := HNB9.out; omega))
                  have HM8 := Lib.hid (HS8.out.blk HM7.out (by simp; have := HNB9.out; omega))
                  have HX8 := Lib.hid (HS8.out.blk HX7.out (by simp; have := HNB9.out; omega))
                  have HRW8v8 := Lib.hid (HR5.out.onlyG oset (fun i e he p hp => by have := HA5r8.out p hp; have := HT7.out.lt; simp; omega) (fun e he b hb => by have := HBL8.out e he b hb; have := HNB9.out; simp; omega))
                  have HTL8 := Lib.hid HT7.out.lt
                  have HRW7v8 := Lib.hid (HRW7v7.out.onlyG HS8.out (fun i e he p hp => by have := HA5r7.out p hp; have := HTL7.out; simp; omega) (fun e he b hb => by have := HBL7.out e he b hb; have := HNB9.out; simp; omega))
                  clear hset oset HR5 HO5 HT5
                  have HRA9 := Lib.hid (HNM.out.of.keep HQ8.out)
                  have HRB9 := Lib.hid (HMM.out.of.keep HQ8.out)
                  refine (wpIn_wide (n := 9)).1 ?_
                  refine wpIn_region_relR 7 (Only []) (fr := ?fra9u) (tl := ?tla9u) (fun iq v wv => match iq with
                    | 0 => v = .pointer (some ⟨nb, 3, none⟩)
                    | 1 => v = .slice none 0 0
                    | 2 => v = .pointer (some ⟨w.heap.size + 1, 3, none⟩)
                    | 3 => v = .slice A3 of.length c3
                    | 4 => ∃ A' c', v = .slice A' of.length c' ∧ wv.ownsRow w8.heap.size 66 4 (.slice A' of.length c') of.length (flatG Vr.cs of)
                    | 5 => v = .pointer (some ⟨w.heap.size + 2, 3, none⟩)
                    | 6 => v = .slice B3 mof.length d3
                    | _ => True) (.inl rfl) (by kernel_rfl) (by kernel_rfl) (by kernel_rfl) (by kernel_rfl) (by kernel_rfl) (by kernel_rfl) (by decide) ?htla9u ?hfra9u (Only.refl _ _) (fun _ _ _ h k => h.trans k (fun _ hx => .inl hx)) ?staba9u ?stepsa9u ?donea9u
                  case htla9u => simp only [List.drop_succ_cons, List.drop_zero]; rfl
                  case hfra9u => intro vals; simp only [putAll, dstAt, Act.put, List.getElem?_toArray, List.getElem?_cons_zero, List.getElem?_cons_succ, Option.bind_some, List.setIfInBounds_toArray, List.set_cons_zero, List.set_cons_succ]; rfl
                  case staba9u =>
                    intro i v wa wb h
                    try dsimp only
                    split <;> first | exact id | (rintro ⟨A', c', h1, h2⟩; exact ⟨A', c', h1, ownsRow_only h h2 (fun _ _ => by simp)⟩)
                  case stepsa9u =>
                    refine ⟨?_, ?_, ?_, ?_, ?_, ?_, ?_, trivial⟩
                    · intro vals wr hR hp K hK
                      dsimp only at hK ⊢
                      clear hp
                      unfold RunsOp
                      go_simp
                      exact hK.out _ _ ⟨_, rfl, Only.refl _ _, rfl⟩
                    · intro vals wr hR hp K hK
                      dsimp only at hK ⊢
                      obtain ⟨p0, -⟩ := hp
                      replace p0 := p0 rfl
                      dsimp only at p0
                      rw [p0] at hK ⊢
                      clear p0
                      unfold RunsOp
                      obtain ⟨k0, k1, k2, k3, kl⟩ := (hR.blk (Blk.drew HT8.out) (by simp)).facts4
                      go_simp
                      exact hK.out _ _ ⟨_, rfl, Only.refl _ _, rfl⟩
                    · intro vals wr hR hp K hK
                      dsimp only at hK ⊢
                      clear hp
                      unfold RunsOp
                      go_simp
                      exact hK.out _ _ ⟨_, rfl, Only.refl _ _, rfl⟩
                    · intro vals wr hR hp K hK
                      dsimp only at hK ⊢
                      obtain ⟨p2, -⟩ := hp
                      replace p2 := p2 rfl
                      dsimp only at p2
                      rw [p2] at hK ⊢
                      clear p2
                      unfold RunsOp
                      obtain ⟨k0, k1, k2, k3, kl⟩ := (hR.blk (Blk.drew HN8.out) (by simp)).facts4
                      go_simp
                      exact hK.out _ _ ⟨_, rfl, Only.refl _ _, rfl⟩
                    · intro vals wr hR hp K hK
                      dsimp only at hK ⊢
                      obtain ⟨p1, p3, -⟩ := hp
                      replace p1 := p1 rfl
                      replace p3 := p3 rfl
                      dsimp only at p1 p3
                      rw [p1, p3] at hK ⊢
                      clear p1 p3
                      unfold RunsOp
                      obtain ⟨A5, c5, w5, hrun, ho5, oo5⟩ := run_app0 Vr.cs vcs_len vcs_one Tryd.underlying25 infoV66 rfl (by omega) (by omega) (w := wr) w8.heap.size (cz := c3) (AS := A3) (M := of) ((HRA9.out.keep ((Only.refl [] _).drew.trans hR (by simp))).src) (by have := HLN.out; omega) hR.size
                      refine runs_append hrun rfl _ _ rfl rfl rfl rfl ?_
                      exact hK.out _ _ ⟨_, rfl, oo5, _, _, rfl, ho5⟩
                    · intro vals wr hR hp K hK
                      dsimp only at hK ⊢
                      clear hp
                      unfold RunsOp
                      go_simp
                      exact hK.out _ _ ⟨_, rfl, Only.refl _ _, rfl⟩
                    · intro vals wr hR hp K hK
                      dsimp only at hK ⊢
                      obtain ⟨p5, -⟩ := hp
                      replace p5 := p5 rfl
                      dsimp only at p5
                      rw [p5] at hK ⊢
                      clear p5
                      unfold RunsOp
                      obtain ⟨k0, k1, k2, k3, kl⟩ := (hR.blk (Blk.drew HM8.out) (by simp)).facts4
                      go_simp
                      exact hK.out _ _ ⟨_, rfl, Only.refl _ _, rfl⟩
                  case donea9u =>
                    intro vals wd hR hF
                    have f0 : vals 0 = .pointer (some ⟨nb, 3, none⟩) := hF 0 (by decide)
                    have f1 : vals 1 = .slice none 0 0 := hF 1 (by decide)
                    have f2 : vals 2 = .pointer (some ⟨w.heap.size + 1, 3, none⟩) := hF 2 (by decide)
                    have f3 : vals 3 = .slice A3 of.length c3 := hF 3 (by decide)
                    have f5 : vals 5 = .pointer (some ⟨w.heap.size + 2, 3, none⟩) := hF 5 (by decide)
                    have f6 : vals 6 = .slice B3 mof.length d3 := hF 6 (by decide)
                    rw [f0, f1, f2, f3, f5, f6]
                    clear f0 f1 f2 f3 f5 f6
                    obtain ⟨A', c', f4, ho4⟩ := hF 4 (by decide)
                    rw [f4]
                    have HRl := Lib.hid ((Only.refl [] _).drew.trans hR (by simp))
                    obtain ⟨A5r9, c5r9, w5, hrun, ho5, oo5⟩ := run_appS Vr.cs vcs_len vcs_one Tryd.underlying25 infoV66 rfl (by omega) (by omega) (w := wd) (cz := d3) (AS := B3) (L := of) (M := mof) ho4 ((HRB9.out.keep HRl.out).src) (by have := HLN.out; omega) HRl.out.size
                    have HB5 := Lib.hid (fun p (hp : A' = some p) => (show w8.heap.size ≤ p.block from by subst hp; exact (ho4.lt p.block rfl).1))
                    have HA5r9 := Lib.hid (fun p (hp : A5r9 = some p) => (show w8.heap.size ≤ p.block from by subst hp; exact (ho5.lt p.block rfl).1))
                    have HO5 := Lib.hid (show Only [] w8 w5 from HRl.out.trans oo5 (fun x hx => .inr (by
                      cases A' with
                      | none => simp at hx
                      | some p => simp at hx; subst hx; exact HB5.out p rfl)))
                    have HR5 := Lib.hid (RowVr.ofApp ho5 (HRA9.out.keep HO5.out) (HRB9.out.keep HO5.out) (by have := HLN.out; rw [List.length_append]; omega))
                    rw [HV9.out] at hrun HR5
                    have HT5 := Lib.hid (HO5.out.blk HT8.out (by simp))
                    clear hR hF f4 ho4 ho5 oo5 HB5 HRl
                    obtain ⟨t0, t1, t2, t3, tl⟩ := HT5.out.facts4
                    have tg0 := HT5.out.frozen 0
                    have tg1 := HT5.out.frozen 1
                    have tg2 := HT5.out.frozen 2
                    have tg3 := HT5.out.frozen 3
                    gi_wp2_with (gi_at_builtin; refine wpListIn_append_run hrun rfl _ _ rfl rfl rfl rfl ?_)
                    go_wp2_with (fail)
                    have hset := HT5.out.set_ 3 (.slice A5r9 os.length c5r9)
                    have oset : Only [nb] w5 (w5.setCell ⟨nb, 3, none⟩ (.slice A5r9 os.length c5r9)) := (Only.refl [nb] w5).setCell (.inl (by simp)) _
                    obtain ⟨w9, hw9⟩ : ∃ W : World, w5.setCell ⟨nb, 3, none⟩ (.slice A5r9 os.length c5r9) = W := ⟨_, rfl⟩
                    rw [hw9] at hset oset ⊢
                    clear hw9 t0 t1 t2 t3 tl tg0 tg1 tg2 tg3 hrun
                    have HT9 := Lib.hid hset
                    have HQ9 := Lib.hid (show Only [] w w9 from (HQ8.out.trans HO5.out (by simp)).trans oset (fun x hx => .inr (by simp at hx; have := HNB9.out; omega)))
                    have HP9 := Lib.hid (show Only [] wd9 w9 from (HP8.out.trans HO5.out (by simp)).trans oset (fun x hx => .inr (by simp at hx; have := HNB8.out; omega)))
                    have HS9 := Lib.hid (show Only [nb] w8 w9 from (HO5.out.mono (fun _ h => by simp at h)).trans oset (fun x hx => .inl hx))
                    have HN9 := Lib.hid (HS9.out.blk HN8.out (by simp; have := HNB9.out; omega))
                    have HM9 := Lib.hid (HS9.out.blk HM8.out (by simp; have := HNB9.out; omega))
                    have HX9 := Lib.hid (HS9.out.blk HX8.out (by simp; have := HNB9.out; omega))
                    have HRW9v9 := Lib.hid (HR5.out.onlyG oset (fun i e he p hp => by have := HA5r9.out p hp; have := HT8.out.lt; simp; omega) (fun e he b hb => by have := HBL9.out e he b hb; have := HNB9.out; simp; omega))
                    have HTL9 := Lib.hid HT8.out.lt
                    have HRW7v9 := Lib.hid (HRW7v8.out.onlyG HS9.out (fun i e he p hp => by have := HA5r7.out p hp; have := HTL7.out; simp; omega) (fun e he b hb => by have := HBL7.out e he b hb; have := HNB9.out; simp; omega))
                    have HRW8v9 := Lib.hid (HRW8v8.out.onlyG HS9.out (fun i e he p hp => by have := HA5r8.out p hp; have := HTL8.out; simp; omega) (fun e he b hb => by have := HBL8.out e he b hb; have := HNB9.out; simp; omega))
                    clear hset oset HR5 HO5 HT5
                    obtain ⟨wz, hwz⟩ : ∃ wz : World, wz = w9 := ⟨_, rfl⟩
                    subst hwz
                    have HLNz := Lib.hid (show LiesN wz A5r7 vs A5r8 ps A5r9 os from ⟨HRW7v9.out, HRW8v9.out, HRW9v9.out⟩)
                    have HLW2 := Lib.hid HLNz.out.low
                    have HPL2 := Lib.hid HLNz.out.ports.low.1
                    have HB7 := Lib.hid HQ9.out.size
                    have HPE2 := Lib.hid (show (Ex.mk op n nm sb A cap args).tr.type ⟨vs.map Vr.tr, ps.map Pr.tr, mbag, os.map Vr.tr⟩ = (p1, 0) from by
                      rw [← HV7.out, ← HV8.out, ← HV9.out, List.map_append, List.map_append, List.map_append, ← HPE.out]
                      exact type_more ⟨vars.map Vr.tr, ports.map Pr.tr, false, of.map Vr.tr⟩ ⟨mvars.map Vr.tr, mports.map Pr.tr, mbag, mof.map Vr.tr⟩ _ (by rw [HPE.out]))
                    obtain ⟨pf, hpf⟩ : ∃ pf : Tt × Int, (p1, 0) = pf := ⟨_, rfl⟩
                    have HPF := Lib.hid hpf
                    rw [hpf] at HPE2
                    clear hpf
                    have CO2 := Lib.hid (fun W (o : Only [] wz W) => (show Calls Tryd.prog 11 #[.agg #[.slice A5r7 vs.length c5r7, .slice A5r8 ps.length c5r8, .bool mbag, .slice A5r9 os.length c5r9]] W (fun r w' => ∃ A1' c1' A3' c3', r = .returned (.agg #[.slice A1' vs.length c1', .slice A5r8 ps.length c5r8, .bool mbag, .slice A3' os.length c3']) ∧ LiesN w' A1' vs A5r8 ps A3' os ∧ (∀ p, A1' = some p → W.heap.size ≤ p.block) ∧ (∀ p, A3' = some p → W.heap.size ≤ p.block) ∧ Only [] W w') from of_any (A1 := A5r7) (A2 := A5r8) (A3 := A5r9) (vars := vs) (ports := ps) (of := os) (c1 := c5r7) (c2 := c5r8) (bag := mbag) (c3 := c5r9) (by have := HOA.out.l1; omega) (by have := HOA.out.l3; omega) (HLNz.out.keep o)))
                    have CT2 := Lib.hid (fun A1' c1' A3' c3' W (o : Only [] wz W) (hl : LiesN W A1' vs A5r8 ps A3' os) => (show Calls Tryd.prog 10 #[.agg #[.int .i64 op, .int .i64 n, .string nm, .string sb, .slice A args.length cap], .agg #[.slice A1' vs.length c1', .slice A5r8 ps.length c5r8, .bool mbag, .slice A3' os.length c3']] W fun r w' => RK w.heap.size W pf r w' from by rw [← HPE2.out]; exact type_any (B0 := w.heap.size) (c1 := c1') (c2 := c5r8) (bag := mbag) (c3 := c3') (e := .mk op n nm sb A cap args) HOA.out (HQ9.out.trans o (by simp)).size (HLE.out.keep (HQ9.out.trans o (by simp))) (HWD.out.keep (HQ9.out.trans o (by simp))) hl))
                    refine (wpIn_wide (n := 9)).1 ?_
                    refine wpIn_region_relG 9 (RelF wz.heap.size) (V9 wz) (FL w.heap.size wz pf (.agg #[.int .i64 op, .int .i64 n, .string nm, .string sb, .slice A args.length cap]) (.agg #[.slice A5r7 vs.length c5r7, .slice A5r8 ps.length c5r8, .bool mbag, .slice A5r9 os.length c5r9]) (OfAt vs ps os A5r8 c5r8 mbag)) none (fr := ?frtzu) (tl := ?tltzu) (.inl rfl) (by kernel_rfl) (by kernel_rfl) (by kernel_rfl) (by kernel_rfl) (by kernel_rfl) (by kernel_rfl) (by decide) ?htltzu ?hfrtzu (RelF.of (Only.refl _ _)) (fun _ _ _ h k => h.trans k) (fun ub hg => by cases hg) ?stepstzu ?donetzu
                    case htltzu => simp only [List.drop_succ_cons, List.drop_zero]; rfl
                    case hfrtzu => intro vals; simp only [putAll, dstAt, Act.put, List.getElem?_toArray, List.getElem?_cons_zero, List.getElem?_cons_succ, Option.bind_some, List.setIfInBounds_toArray, List.set_cons_zero, List.set_cons_succ]; rfl
                    case stepstzu =>
                      refine ⟨?_, ?_, ?_, ?_, ?_, ?_, ?_, ?_, ?_, trivial⟩
                      · intro g vals wr hR hV hp K hK
                        dsimp only at hK ⊢
                        replace hR := hR.only (Nat.le_refl _)
                        clear hp
                        unfold RunsOp
                        obtain ⟨k0, k1, k2, k3, k4, kl⟩ := (hR.blk (Blk.drew HX9.out) (by simp)).facts5
                        go_simp
                        exact hK.out _ _ ⟨_, g, rfl, RelF.of (Only.refl _ _), hV, rfl, fun _ _ _ _ h => h⟩
                      · intro g vals wr hR hV hp K hK
                        dsimp only at hK ⊢
                        replace hR := hR.only (Nat.le_refl _)
                        clear hp
                        unfold RunsOp
                        obtain ⟨k0, k1, k2, k3, kl⟩ := (hR.blk (Blk.drew HT9.out) (by simp)).facts4
                        go_simp
                        exact hK.out _ _ ⟨_, g, rfl, RelF.of (Only.refl _ _), hV, rfl, fun _ _ _ _ h => h⟩
                      · intro g vals wr hR hV hp K hK
                        dsimp only at hK ⊢
                        replace hR := hR.only (Nat.le_refl _)
                        obtain ⟨p1, -⟩ := hp
                        replace p1 := p1 rfl
                        replace p1 : vals 1 = .agg #[.slice A5r7 vs.length c5r7, .slice A5r8 ps.length c5r8, .bool mbag, .slice A5r9 os.length c5r9] := p1
                        rw [p1] at hK ⊢
                        clear p1
                        unfold RunsOp
                        have HV := Lib.hid hV
                        clear hV
                        go_simp
                        refine (CO2.out _ ((Only.refl [] _).drew.trans hR (by simp))).mono ?_
                        rintro e' w2 ⟨A1', c1', A3', c3', rfl, hl, n1', n3', o2⟩
                        exact hK.out _ _ ⟨_, g, rfl, RelF.of o2, HV.out.keep o2, ⟨A1', c1', A3', c3', rfl, hl, fun ub hg => by obtain ⟨h1, c0, c1, h1'⟩ := HV.out ub hg; have h2 := h1'.lt; exact ⟨fun i e he p hp => by have := n1' p hp; omega, fun i e he p hp => by have := n3' p hp; omega⟩⟩, fun _ _ _ _ h => FL.keep o2 (OfAt.keep o2) h⟩
                      · intro g vals wr hR hV hp K hK
                        dsimp only at hK ⊢
                        replace hR := hR.only (Nat.le_refl _)
                        obtain ⟨p0, p2, -, -⟩ := hp
                        replace p0 := p0 rfl
                        replace p2 := p2 rfl
                        replace p0 : vals 0 = .agg #[.int .i64 op, .int .i64 n, .string nm, .string sb, .slice A args.length cap] := p0
                        obtain ⟨A1', c1', A3', c3', e2, hl2, -⟩ := p2
                        rw [p0, e2] at hK ⊢
                        clear p0 e2
                        unfold RunsOp
                        have HV := Lib.hid hV
                        have HL2 := Lib.hid hl2
                        clear hV hl2
                        go_simp
                        refine (CT2.out _ _ _ _ _ ((Only.refl [] _).drew.trans hR (by simp)) HL2.out).mono ?_
                        rintro e' w2 ⟨zk, zA, zcap, zl, rfl, hc, o2⟩
                        exact hK.out _ _ ⟨_, g, rfl, RelF.of o2, HV.out.keep o2, ⟨zk, zA, zcap, zl, rfl, hc.low hR.size, fun ub hg hm => by obtain ⟨h1, c0, c1, h1'⟩ := HV.out ub hg; have h2 := h1'.lt; have h3 := HB7.out; rcases hc.off ub hm with h | h <;> omega⟩, fun _ _ _ _ h => FL.keep o2 (OfAt.keep o2) h⟩
                      · intro g vals wr hR hV hp K hK
                        dsimp only at hK ⊢
                        replace hR := hR.only (Nat.le_refl _)
                        obtain ⟨p3, -⟩ := hp
                        replace p3 := p3 rfl
                        obtain ⟨zk, zA, zcap, zl, e3, hc3, hn3⟩ := p3
                        rw [e3] at hK ⊢
                        clear e3
                        unfold RunsOp
                        have HC := Lib.hid (And.intro hc3 hn3)
                        clear hc3 hn3
                        go_simp
                        exact hK.out _ _ ⟨_, g, rfl, RelF.of (Only.refl _ _), hV, ⟨zk, zA, zcap, zl, rfl, HC.out.1, HC.out.2⟩, fun _ _ _ _ h => h⟩
                      · intro g vals wr hR hV hp K hK
                        dsimp only at hK ⊢
                        replace hR := hR.only (Nat.le_refl _)
                        obtain ⟨p4, -⟩ := hp
                        replace p4 := p4 rfl
                        obtain ⟨zk, zA, zcap, zl, e4, hc4, hn4⟩ := p4
                        rw [e4] at hK ⊢
                        clear e4
                        unfold RunsOp
                        have HC := Lib.hid (And.intro hc4 hn4)
                        clear hc4 hn4
                        go_simp
                        exact hK.out _ _ ⟨_, g, rfl, RelF.of (Only.refl _ _), hV, ⟨zk, zA, zcap, zl, rfl, HC.out.1, HC.out.2⟩, fun _ _ _ _ h => h⟩
                      · intro g vals wr hR hV hp K hK
                        dsimp only at hK ⊢
                        replace hR := hR.only (Nat.le_refl _)
                        obtain ⟨p4, -, -⟩ := hp
                        replace p4 := p4 rfl
                        obtain ⟨zk, zA, zcap, zl, e4, hc4, hn4⟩ := p4
                        rw [e4] at hK ⊢
                        clear e4
                        unfold RunsOp
                        clear hc4 hn4
                        go_simp
                        exact hK.out _ _ ⟨_, g, rfl, RelF.of (Only.refl _ _), hV, rfl, fun _ _ _ _ h => h⟩
                      · intro g vals wr hR hV hp K hK
                        dsimp only at hK ⊢
                        replace hR := hR.only (Nat.le_refl _)
                        clear hp
                        unfold RunsOp
                        have HV := Lib.hid hV
                        clear hV
                        have ho := (show Only [] wr (wr.alloc (.cells #[.int .i64 0, .slice none 0 0] 34)) from (Only.refl _ _).alloc _)
                        have hb := Blk.new wr 34 #[.int .i64 0, .slice none 0 0]
                        have HH := Lib.hid (And.intro ho (And.intro hb hR.size))
                        clear ho hb
                        go_simp
                        exact hK.out _ _ ⟨_, some wr.heap.size, rfl, RelF.of HH.out.1, fun ub hg => by injection hg with hg; subst hg; exact ⟨HH.out.2.2, _, _, HH.out.2.1⟩, ⟨_, rfl, rfl⟩, fun j u hj hn h => FL.laid hj (fun e => by subst e; exact Bool.noConfusion ((show _ = true by kernel_rfl).symm.trans hn)) HH.out.1 (OfAt.laid HH.out.1) h⟩
                      · intro g vals wr hR hV hp K hK
                        dsimp only at hK ⊢
                        replace hR := hR.only (Nat.le_refl _)
                        obtain ⟨p7, p5, -, -, -, -, -, -, -, -, -, -⟩ := hp
                        replace p7 := p7 rfl
                        replace p5 := p5 rfl
                        obtain ⟨ub, hg, e7⟩ := p7
                        obtain ⟨zk, zA, zcap, zl, e5, hc5, hn5⟩ := p5
                        rw [e7, e5] at hK ⊢
                        clear e7 e5
                        unfold RunsOp
                        obtain ⟨hvl, c0, c1, hvb⟩ := hV ub hg
                        obtain ⟨t0, t1, tl⟩ := hvb.facts2
                        have tg0 := hvb.frozen 0
                        have tg1 := hvb.frozen 1
                        have ho : Only [ub] wr ((wr.setCell ⟨ub, 0, none⟩ (.int .i64 zk)).setCell ⟨ub, 1, none⟩ (.slice zA zl.length zcap)) := ((Only.refl [ub] wr).setCell (.inl (by simp)) _).setCell (.inl (by simp)) _
                        have hb := (hvb.set_ 0 (.int .i64 zk)).set_ 1 (.slice zA zl.length zcap)
                        have HC := Lib.hid (And.intro hc5 (hn5 ub hg))
                        have HH := Lib.hid (And.intro ho (And.intro hb (And.intro hvl hV)))
                        clear ho hb hvb hV hc5 hn5 hvl
                        go_simp
                        exact hK.out _ _ ⟨.int .i64 0, g, rfl, ⟨[ub], fun x hx => by simp at hx; subst hx; exact HH.out.2.2.1, HH.out.1⟩, fun ub' hg' => by obtain rfl : ub = ub' := (by rw [hg] at hg'; injection hg'); exact ⟨HH.out.2.2.1, _, _, HH.out.2.1⟩, ⟨ub, zk, zA, zcap, zl, hg, HH.out.2.1, ⟨HC.out.1.tr, HC.out.1.lies.only HH.out.1 (fun x hx hm => by simp at hm; subst hm; exact HC.out.2 hx), HC.out.1.off⟩, HC.out.2⟩, fun _ _ hj _ h => FL.set hg hj HH.out.1 (OfAt.set HLW2.out HPL2.out HH.out.2.2.1 hg HH.out.1) h⟩
                    case donetzu =>
                      intro g vals wdz hR hV hF
                      have f6 : vals 6 = .int .i64 pf.2 := hF 6 (by decide)
                      obtain ⟨ub, hg, f7⟩ := hF 7 (by decide)
                      obtain ⟨ub', zk, zA, zcap, zl, hg', hTB, hTK, hnb⟩ := hF 8 (by decide)
                      obtain rfl : ub = ub' := (by rw [hg] at hg'; injection hg')
                      have HUL := Lib.hid (hV ub hg).1
                      replace hR := hR.only (Nat.le_refl _)
                      rw [f6, f7]
                      clear f6 f7
                      have HSR := Lib.hid ((Only.refl [] _).drew.trans hR (by simp))
                      have HUB := Lib.hid hTB
                      have HUK := Lib.hid hTK
                      have HVB := Lib.hid hnb
                      clear hR hV hF hg hg' hTK hnb hTB
                      rw [← HPF.out] at HUK ⊢
                      dsimp only at HUK ⊢
                      have HTB2 := Lib.hid (HSR.out.blk (HP9.out.blk HTB.out (by simp)) (by simp))
                      have HO9 := Lib.hid (HQ9.out.trans HSR.out (by simp))
                      have HYT := Lib.hid (And.intro HTK.out.tr ((HTK.out.lies.keep HP9.out).keep HSR.out))
                      have HZT := Lib.hid (And.intro HUK.out.tr HUK.out.lies)
                      have CC := Lib.hid (refsameT (.mk yk yA ycap yl) (.mk zk zA zcap zl) _ HYT.out.2 HZT.out.2)
                      rw [HYT.out.1, HZT.out.1, show p1.same p1 = true from (Tt.same_iff _ _).2 rfl] at CC
                      have CD := Lib.hid (fun W (o : Only [] wdz W) => refrightT (.mk yk yA ycap yl) W (HYT.out.2.keep o) 3 (by omega))
                      rw [HYT.out.1, HTO.out] at CD
                      obtain ⟨t0, t1, tl⟩ := HTB2.out.facts2
                      obtain ⟨u0, u1, ul⟩ := HUB.out.facts2
                      gi_wp2_with (fail)
                      go_wp2_with (fail)
                      refine CC.out.mono ?_
                      rintro r w10 ⟨rfl, o10⟩
                      have HTB3 := Lib.hid (o10.blk HTB2.out (by simp))
                      have HO10 := Lib.hid o10
                      clear t0 t1 tl u0 u1 ul o10
                      obtain ⟨t0, t1, tl⟩ := HTB3.out.facts2
                      go_wp2_with (fail)
                      refine (CD.out _ HO10.out).mono ?_
                      rintro r w11 ⟨rfl, o11⟩
                      go_wp2_with (fail)
                      go_ret
                      exact ⟨rfl, (HO9.out.trans HO10.out (by simp)).trans o11 (by simp)⟩
            · obtain ⟨b0, b1, b2, b3, bl⟩ := HN5.out.facts4
              obtain ⟨m0, m1, m2, m3, ml⟩ := HM5.out.facts4
              gi_wp2_with (fail)
              go_wp2_with (fail)
              clear b0 b1 b2 b3 bl
              clear m0 m1 m2 m3 ml
              have HTz := Lib.hid (Blk.new wd9 28 #[.slice none 0 0, .slice none 0 0, .bool true, .slice none 0 0])
              have HNB9 := Lib.hid (show w.heap.size + 3 ≤ wd9.heap.size from by have := HM5.out.lt; omega)
              have HP6 := Lib.hid (show Only [] wd9 (wd9.alloc (.cells #[.slice none 0 0, .slice none 0 0, .bool true, .slice none 0 0] 28)) from (Only.refl [] wd9).alloc _)
              obtain ⟨w6, hw6⟩ : ∃ W : World, wd9.alloc (.cells #[.slice none 0 0, .slice none 0 0, .bool true, .slice none 0 0] 28) = W := ⟨_, rfl⟩
              rw [hw6] at HTz HP6 ⊢
              clear hw6
              obtain ⟨nb, hnb⟩ : ∃ nb, wd9.heap.size = nb := ⟨_, rfl⟩
              have HNB8 := Lib.hid (Nat.le_of_eq hnb)
              rw [hnb] at HTz HNB9 ⊢
              clear hnb
              have HT6 := HTz
              clear HTz
              have HX6 := Lib.hid (HP6.out.blk HX5.out (by simp))
              have HN6 := Lib.hid (HP6.out.blk HN5.out (by simp))
              have HM6 := Lib.hid (HP6.out.blk HM5.out (by simp))
              have HQ6 := Lib.hid (HO5.out.trans HP6.out (by simp))
              have HRA7 := Lib.hid (HNM.out.vars.keep HQ6.out)
              have HRB7 := Lib.hid (HMM.out.vars.keep HQ6.out)
              refine (wpIn_wide (n := 9)).1 ?_
              refine wpIn_region_relR 7 (Only []) (fr := ?fra7v) (tl := ?tla7v) (fun iq v wv => match iq with
                | 0 => v = .pointer (some ⟨nb, 0, none⟩)
                | 1 => v = .slice none 0 0
                | 2 => v = .pointer (some ⟨w.heap.size + 1, 0, none⟩)
                | 3 => v = .slice A1 vars.length c1
                | 4 => ∃ A' c', v = .slice A' vars.length c' ∧ wv.ownsRow w6.heap.size 66 4 (.slice A' vars.length c') vars.length (flatG Vr.cs vars)
                | 5 => v = .pointer (some ⟨w.heap.size + 2, 0, none⟩)
                | 6 => v = .slice B1 mvars.length d1
                | _ => True) (.inl rfl) (by kernel_rfl) (by kernel_rfl) (by kernel_rfl) (by kernel_rfl) (by kernel_rfl) (by kernel_rfl) (by decide) ?htla7v ?hfra7v (Only.refl _ _) (fun _ _ _ h k => h.trans k (fun _ hx => .inl hx)) ?staba7v ?stepsa7v ?donea7v
              case htla7v => simp only [List.drop_succ_cons, List.drop_zero]; rfl
              case hfra7v => intro vals; simp only [putAll, dstAt, Act.put, List.getElem?_toArray, List.getElem?_cons_zero, List.getElem?_cons_succ, Option.bind_some, List.setIfInBounds_toArray, List.set_cons_zero, List.set_cons_succ]; rfl
              case staba7v =>
                intro i v wa wb h
                try dsimp only
                split <;> first | exact id | (rintro ⟨A', c', h1, h2⟩; exact ⟨A', c', h1, ownsRow_only h h2 (fun _ _ => by simp)⟩)
              case stepsa7v =>
                refine ⟨?_, ?_, ?_, ?_, ?_, ?_, ?_, trivial⟩
                · intro vals wr hR hp K hK
                  dsimp only at hK ⊢
                  clear hp
                  unfold RunsOp
                  go_simp
                  exact hK.out _ _ ⟨_, rfl, Only.refl _ _, rfl⟩
                · intro vals wr hR hp K hK
                  dsimp only at hK ⊢
                  obtain ⟨p0, -⟩ := hp
                  replace p0 := p0 rfl
                  dsimp only at p0
                  rw [p0] at hK ⊢
                  clear p0
                  unfold RunsOp
                  obtain ⟨k0, k1, k2, k3, kl⟩ := (hR.blk (Blk.drew HT6.out) (by simp)).facts4
                  go_simp
                  exact hK.out _ _ ⟨_, rfl, Only.refl _ _, rfl⟩
                · intro vals wr hR hp K hK
                  dsimp only at hK ⊢
                  clear hp
                  unfold RunsOp
                  go_simp
                  exact hK.out _ _ ⟨_, rfl, Only.refl _ _, rfl⟩
                · intro vals wr hR hp K hK
                  dsimp only at hK ⊢
                  obtain ⟨p2, -⟩ := hp
                  replace p2 := p2 rfl
                  dsimp only at p2
                  rw [p2] at hK ⊢
                  clear p2
                  unfold RunsOp
                  obtain ⟨k0, k1, k2, k3, kl⟩ := (hR.blk (Blk.drew HN6.out) (by simp)).facts4
                  go_simp
                  exact hK.out _ _ ⟨_, rfl, Only.refl _ _, rfl⟩
                · intro vals wr hR hp K hK
                  dsimp only at hK ⊢
                  obtain ⟨p1, p3, -⟩ := hp
                  replace p1 := p1 rfl
                  replace p3 := p3 rfl
                  dsimp only at p1 p3
                  rw [p1, p3] at hK ⊢
                  clear p1 p3
                  unfold RunsOp
                  obtain ⟨A5, c5, w5, hrun, ho5, oo5⟩ := run_app0 Vr.cs vcs_len vcs_one Tryd.underlying25 infoV66 rfl (by omega) (by omega) (w := wr) w6.heap.size (cz := c1) (AS := A1) (M := vars) ((HRA7.out.keep ((Only.refl [] _).drew.trans hR (by simp))).src) (by have := HLN.out; omega) hR.size
                  refine runs_append hrun rfl _ _ rfl rfl rfl rfl ?_
                  exact hK.out _ _ ⟨_, rfl, oo5, _, _, rfl, ho5⟩
                · intro vals wr hR hp K hK
                  dsimp only at hK ⊢
                  clear hp
                  unfold RunsOp
                  go_simp
                  exact hK.out _ _ ⟨_, rfl, Only.refl _ _, rfl⟩
                · intro vals wr hR hp K hK
                  dsimp only at hK ⊢
                  obtain ⟨p5, -⟩ := hp
                  replace p5 := p5 rfl
                  dsimp only at p5
                  rw [p5] at hK ⊢
                  clear p5
                  unfold RunsOp
                  obtain ⟨k0, k1, k2, k3, kl⟩ := (hR.blk (Blk.drew HM6.out) (by simp)).facts4
                  go_simp
                  exact hK.out _ _ ⟨_, rfl, Only.refl _ _, rfl⟩
              case donea7v =>
                intro vals wd hR hF
                have f0 : vals 0 = .pointer (some ⟨nb, 0, none⟩) := hF 0 (by decide)
                have f1 : vals 1 = .slice none 0 0 := hF 1 (by decide)
                have f2 : vals 2 = .pointer (some ⟨w.heap.size + 1, 0, none⟩) := hF 2 (by decide)
                have f3 : vals 3 = .slice A1 vars.length c1 := hF 3 (by decide)
                have f5 : vals 5 = .pointer (some ⟨w.heap.size + 2, 0, none⟩) := hF 5 (by decide)
                have f6 : vals 6 = .slice B1 mvars.length d1 := hF 6 (by decide)
                rw [f0, f1, f2, f3, f5, f6]
                clear f0 f1 f2 f3 f5 f6
                obtain ⟨A', c', f4, ho4⟩ := hF 4 (by decide)
                rw [f4]
                have HRl := Lib.hid ((Only.refl [] _).drew.trans hR (by simp))
                obtain ⟨A5r7, c5r7, w5, hrun, ho5, oo5⟩ := run_appS Vr.cs vcs_len vcs_one Tryd.underlying25 infoV66 rfl (by omega) (by omega) (w := wd) (cz := d1) (AS := B1) (L := vars) (M := mvars) ho4 ((HRB7.out.keep HRl.out).src) (by have := HLN.out; omega) HRl.out.size
                have HB5 := Lib.hid (fun p (hp : A' = some p) => (show w6.heap.size ≤ p.block from by subst hp; exact (ho4.lt p.block rfl).1))
                have HA5r7 := Lib.hid (fun p (hp : A5r7 = some p) => (show w6.heap.size ≤ p.block from by subst hp; exact (ho5.lt p.block rfl).1))
                have HO5 := Lib.hid (show Only [] w6 w5 from HRl.out.trans oo5 (fun x hx => .inr (by
                  cases A' with
                  | none => simp at hx
                  | some p => simp at hx; subst hx; exact HB5.out p rfl)))
                have HR5 := Lib.hid (RowVr.ofApp ho5 (HRA7.out.keep HO5.out) (HRB7.out.keep HO5.out) (by have := HLN.out; rw [List.length_append]; omega))
                rw [HV7.out] at hrun HR5
                have HT5 := Lib.hid (HO5.out.blk HT6.out (by simp))
                clear hR hF f4 ho4 ho5 oo5 HB5 HRl
                obtain ⟨t0, t1, t2, t3, tl⟩ := HT5.out.facts4
                have tg0 := HT5.out.frozen 0
                have tg1 := HT5.out.frozen 1
                have tg2 := HT5.out.frozen 2
                have tg3 := HT5.out.frozen 3
                gi_wp2_with (gi_at_builtin; refine wpListIn_append_run hrun rfl _ _ rfl rfl rfl rfl ?_)
                go_wp2_with (fail)
                have hset := HT5.out.set_ 0 (.slice A5r7 vs.length c5r7)
                have oset : Only [nb] w5 (w5.setCell ⟨nb, 0, none⟩ (.slice A5r7 vs.length c5r7)) := (Only.refl [nb] w5).setCell (.inl (by simp)) _
                obtain ⟨w7, hw7⟩ : ∃ W : World, w5.setCell ⟨nb, 0, none⟩ (.slice A5r7 vs.length c5r7) = W := ⟨_, rfl⟩
                rw [hw7] at hset oset ⊢
                clear hw7 t0 t1 t2 t3 tl tg0 tg1 tg2 tg3 hrun
                have HT7 := Lib.hid hset
                have HQ7 := Lib.hid (show Only [] w w7 from (HQ6.out.trans HO5.out (by simp)).trans oset (fun x hx => .inr (by simp at hx; have := HNB9.out; omega)))
                have HP7 := Lib.hid (show Only [] wd9 w7 from (HP6.out.trans HO5.out (by simp)).trans oset (fun x hx => .inr (by simp at hx; have := HNB8.out; omega)))
                have HS7 := Lib.hid (show Only [nb] w6 w7 from (HO5.out.mono (fun _ h => by simp at h)).trans oset (fun x hx => .inl hx))
                have HN7 := Lib.hid (HS7.out.blk HN6.out (by simp; have := HNB9.out; omega))
                have HM7 := Lib.hid (HS7.out.blk HM6.out (by simp; have := HNB9.out; omega))
                have HX7 := Lib.hid (HS7.out.blk HX6.out (by simp; have := HNB9.out; omega))
                have HRW7v7 := Lib.hid (HR5.out.onlyG oset (fun i e he p hp => by have := HA5r7.out p hp; have := HT6.out.lt; simp; omega) (fun e he b hb => by have := HBL7.out e he b hb; have := HNB9.out; simp; omega))
                have HTL7 := Lib.hid HT6.out.lt
                clear hset oset HR5 HO5 HT5
                have HRA8 := Lib.hid (HNM.out.ports.keep HQ7.out)
                have HRB8 := Lib.hid (HMM.out.ports.keep HQ7.out)
                refine (wpIn_wide (n := 9)).1 ?_
                refine wpIn_region_relR 7 (Only []) (fr := ?fra8v) (tl := ?tla8v) (fun iq v wv => match iq with
                  | 0 => v = .pointer (some ⟨nb, 1, none⟩)
                  | 1 => v = .slice none 0 0
                  | 2 => v = .pointer (some ⟨w.heap.size + 1, 1, none⟩)
                  | 3 => v = .slice A2 ports.length c2
                  | 4 => ∃ A' c', v = .slice A' ports.length c' ∧ wv.ownsRow w7.heap.size 68 3 (.slice A' ports.length c') ports.length (flatG Pr.cs ports)
                  | 5 => v = .pointer (some ⟨w.heap.size + 2, 1, none⟩)
                  | 6 => v = .slice B2 mports.length d2
                  | _ => True) (.inl rfl) (by kernel_rfl) (by kernel_rfl) (by kernel_rfl) (by kernel_rfl) (by kernel_rfl) (by kernel_rfl) (by decide) ?htla8v ?hfra8v (Only.refl _ _) (fun _ _ _ h k => h.trans k (fun _ hx => .inl hx)) ?staba8v ?stepsa8v ?donea8v
                case htla8v => simp only [List.drop_succ_cons, List.drop_zero]; rfl
                case hfra8v => intro vals; simp only [putAll, dstAt, Act.put, List.getElem?_toArray, List.getElem?_cons_zero, List.getElem?_cons_succ, Option.bind_some, List.setIfInBounds_toArray, List.set_cons_zero, List.set_cons_succ]; rfl
                case staba8v =>
                  intro i v wa wb h
                  try dsimp only
                  split <;> first | exact id | (rintro ⟨A', c', h1, h2⟩; exact ⟨A', c', h1, ownsRow_only h h2 (fun _ _ => by simp)⟩)
                case stepsa8v =>
                  refine ⟨?_, ?_, ?_, ?_, ?_, ?_, ?_, trivial⟩
                  · intro vals wr hR hp K hK
                    dsimp only at hK ⊢
                    clear hp
                    unfold RunsOp
                    go_simp
                    exact hK.out _ _ ⟨_, rfl, Only.refl _ _, rfl⟩
                  · intro vals wr hR hp K hK
                    dsimp only at hK ⊢
                    obtain ⟨p0, -⟩ := hp
                    replace p0 := p0 rfl
                    dsimp only at p0
                    rw [p0] at hK ⊢
                    clear p0
                    unfold RunsOp
                    obtain ⟨k0, k1, k2, k3, kl⟩ := (hR.blk (Blk.drew HT7.out) (by simp)).facts4
                    go_simp
                    exact hK.out _ _ ⟨_, rfl, Only.refl _ _, rfl⟩
                  · intro vals wr hR hp K hK
                    dsimp only at hK ⊢
                    clear hp
                    unfold RunsOp
                    go_simp
                    exact hK.out _ _ ⟨_, rfl, Only.refl _ _, rfl⟩
                  · intro vals wr hR hp K hK
                    dsimp only at hK ⊢
                    obtain ⟨p2, -⟩ := hp
                    replace p2 := p2 rfl
                    dsimp only at p2
                    rw [p2] at hK ⊢
                    clear p2
                    unfold RunsOp
                    obtain ⟨k0, k1, k2, k3, kl⟩ := (hR.blk (Blk.drew HN7.out) (by simp)).facts4
                    go_simp
                    exact hK.out _ _ ⟨_, rfl, Only.refl _ _, rfl⟩
                  · intro vals wr hR hp K hK
                    dsimp only at hK ⊢
                    obtain ⟨p1, p3, -⟩ := hp
                    replace p1 := p1 rfl
                    replace p3 := p3 rfl
                    dsimp only at p1 p3
                    rw [p1, p3] at hK ⊢
                    clear p1 p3
                    unfold RunsOp
                    obtain ⟨A5, c5, w5, hrun, ho5, oo5⟩ := run_app0 Pr.cs pcs_len pcs_one Tryd.underlying26 infoP68 rfl (by omega) (by omega) (w := wr) w7.heap.size (cz := c2) (AS := A2) (M := ports) ((HRA8.out.keep ((Only.refl [] _).drew.trans hR (by simp))).src) (by have := HLN.out; omega) hR.size
                    refine runs_append hrun rfl _ _ rfl rfl rfl rfl ?_
                    exact hK.out _ _ ⟨_, rfl, oo5, _, _, rfl, ho5⟩
                  · intro vals wr hR hp K hK
                    dsimp only at hK ⊢
                    clear hp
                    unfold RunsOp
                    go_simp
                    exact hK.out _ _ ⟨_, rfl, Only.refl _ _, rfl⟩
                  · intro vals wr hR hp K hK
                    dsimp only at hK ⊢
                    obtain ⟨p5, -⟩ := hp
                    replace p5 := p5 rfl
                    dsimp only at p5
                    rw [p5] at hK ⊢
                    clear p5
                    unfold RunsOp
                    obtain ⟨k0, k1, k2, k3, kl⟩ := (hR.blk (Blk.drew HM7.out) (by simp)).facts4
                    go_simp
                    exact hK.out _ _ ⟨_, rfl, Only.refl _ _, rfl⟩
                case donea8v =>
                  intro vals wd hR hF
                  have f0 : vals 0 = .pointer (some ⟨nb, 1, none⟩) := hF 0 (by decide)
                  have f1 : vals 1 = .slice none 0 0 := hF 1 (by decide)
                  have f2 : vals 2 = .pointer (some ⟨w.heap.size + 1, 1, none⟩) := hF 2 (by decide)
                  have f3 : vals 3 = .slice A2 ports.length c2 := hF 3 (by decide)
                  have f5 : vals 5 = .pointer (some ⟨w.heap.size + 2, 1, none⟩) := hF 5 (by decide)
                  have f6 : vals 6 = .slice B2 mports.length d2 := hF 6 (by decide)
                  rw [f0, f1, f2, f3, f5, f6]
                  clear f0 f1 f2 f3 f5 f6
                  obtain ⟨A', c', f4, ho4⟩ := hF 4 (by decide)
                  rw [f4]
                  have HRl := Lib.hid ((Only.refl [] _).drew.trans hR (by simp))
                  obtain ⟨A5r8, c5r8, w5, hrun, ho5, oo5⟩ := run_appS Pr.cs pcs_len pcs_one Tryd.underlying26 infoP68 rfl (by omega) (by omega) (w := wd) (cz := d2) (AS := B2) (L := ports) (M := mports) ho4 ((HRB8.out.keep HRl.out).src) (by have := HLN.out; omega) HRl.out.size
                  have HB5 := Lib.hid (fun p (hp : A' = some p) => (show w7.heap.size ≤ p.block from by subst hp; exact (ho4.lt p.block rfl).1))
                  have HA5r8 := Lib.hid (fun p (hp : A5r8 = some p) => (show w7.heap.size ≤ p.block from by subst hp; exact (ho5.lt p.block rfl).1))
                  have HO5 := Lib.hid (show Only [] w7 w5 from HRl.out.trans oo5 (fun x hx => .inr (by
                    cases A' with
                    | none => simp at hx
                    | some p => simp at hx; subst hx; exact HB5.out p rfl)))
                  have HR5 := Lib.hid (RowPr.ofApp ho5 (HRA8.out.keep HO5.out) (HRB8.out.keep HO5.out) (by have := HLN.out; rw [List.length_append]; omega))
                  rw [HV8.out] at hrun HR5
                  have HT5 := Lib.hid (HO5.out.blk HT7.out (by simp))
                  clear hR hF f4 ho4 ho5 oo5 HB5 HRl
                  obtain ⟨t0, t1, t2, t3, tl⟩ := HT5.out.facts4
                  have tg0 := HT5.out.frozen 0
                  have tg1 := HT5.out.frozen 1
                  have tg2 := HT5.out.frozen 2
                  have tg3 := HT5.out.frozen 3
                  gi_wp2_with (gi_at_builtin; refine wpListIn_append_run hrun rfl _ _ rfl rfl rfl rfl ?_)
                  go_wp2_with (fail)
                  have hset := HT5.out.set_ 1 (.slice A5r8 ps.length c5r8)
                  have oset : Only [nb] w5 (w5.setCell ⟨nb, 1, none⟩ (.slice A5r8 ps.length c5r8)) := (Only.refl [nb] w5).setCell (.inl (by simp)) _
                  obtain ⟨w8, hw8⟩ : ∃ W : World, w5.setCell ⟨nb, 1, none⟩ (.slice A5r8 ps.length c5r8) = W := ⟨_, rfl⟩
                  rw [hw8] at hset oset ⊢
                  clear hw8 t0 t1 t2 t3 tl tg0 tg1 tg2 tg3 hrun
                  have HT8 := Lib.hid hset
                  have HQ8 := Lib.hid (show Only [] w w8 from (HQ7.out.trans HO5.out (by simp)).trans oset (fun x hx => .inr (by simp at hx; have := HNB9.out; omega)))
                  have HP8 := Lib.hid (show Only [] wd9 w8 from (HP7.out.trans HO5.out (by simp)).trans oset (fun x hx => .inr (by simp at hx; have := HNB8.out; omega)))
                  have HS8 := Lib.hid (show Only [nb] w7 w8 from (HO5.out.mono (fun _ h => by simp at h)).trans oset (fun x hx => .inl hx))
                  have HN8 := Lib.hid (HS8.out.blk HN7.out (by simp; have := HNB9.out; omega))
                  have HM8 := Lib.hid (HS8.out.blk HM7.out (by simp; have := HNB9.out; omega))
                  have HX8 := Lib.hid (HS8.out.blk HX7.out (by simp; have := HNB9.out; omega))
                  have HRW8v8 := Lib.hid (HR5.out.onlyG oset (fun i e he p hp => by have := HA5r8.out p hp; have := HT7.out.lt; simp; omega) (fun e he b hb => by have := HBL8.out e he b hb; have := HNB9.out; simp; omega))
                  have HTL8 := Lib.hid HT7.out.lt
                  have HRW7v8 := Lib.hid (HRW7v7.out.onlyG HS8.out (fun i e he p hp => by have := HA5r7.out p hp; have := HTL7.out; simp; omega) (fun e he b hb => by have := HBL7.out e he b hb; have := HNB9.out; simp; omega))
                  clear hset oset HR5 HO5 HT5
                  have HRA9 := Lib.hid (HNM.out.of.keep HQ8.out)
                  have HRB9 := Lib.hid (HMM.out.of.keep HQ8.out)
                  refine (wpIn_wide (n := 9)).1 ?_
                  refine wpIn_region_relR 7 (Only []) (fr := ?fra9v) (tl := ?tla9v) (fun iq v wv => match iq with
                    | 0 => v = .pointer (some ⟨nb, 3, none⟩)
                    | 1 => v = .slice none 0 0
                    | 2 => v = .pointer (some ⟨w.heap.size + 1, 3, none⟩)
                    | 3 => v = .slice A3 of.length c3
                    | 4 => ∃ A' c', v = .slice A' of.length c' ∧ wv.ownsRow w8.heap.size 66 4 (.slice A' of.length c') of.length (flatG Vr.cs of)
                    | 5 => v = .pointer (some ⟨w.heap.size + 2, 3, none⟩)
                    | 6 => v = .slice B3 mof.length d3
                    | _ => True) (.inl rfl) (by kernel_rfl) (by kernel_rfl) (by kernel_rfl) (by kernel_rfl) (by kernel_rfl) (by kernel_rfl) (by decide) ?htla9v ?hfra9v (Only.refl _ _) (fun _ _ _ h k => h.trans k (fun _ hx => .inl hx)) ?staba9v ?stepsa9v ?donea9v
                  case htla9v => simp only [List.drop_succ_cons, List.drop_zero]; rfl
                  case hfra9v => intro vals; simp only [putAll, dstAt, Act.put, List.getElem?_toArray, List.getElem?_cons_zero, List.getElem?_cons_succ, Option.bind_some, List.setIfInBounds_toArray, List.set_cons_zero, List.set_cons_succ]; rfl
                  case staba9v =>
                    intro i v wa wb h
                    try dsimp only
                    split <;> first | exact id | (rintro ⟨A', c', h1, h2⟩; exact ⟨A', c', h1, ownsRow_only h h2 (fun _ _ => by simp)⟩)
                  case stepsa9v =>
                    refine ⟨?_, ?_, ?_, ?_, ?_, ?_, ?_, trivial⟩
                    · intro vals wr hR hp K hK
                      dsimp only at hK ⊢
                      clear hp
                      unfold RunsOp
                      go_simp
                      exact hK.out _ _ ⟨_, rfl, Only.refl _ _, rfl⟩
                    · intro vals wr hR hp K hK
                      dsimp only at hK ⊢
                      obtain ⟨p0, -⟩ := hp
                      replace p0 := p0 rfl
                      dsimp only at p0
                      rw [p0] at hK ⊢
                      clear p0
                      unfold RunsOp
                      obtain ⟨k0, k1, k2, k3, kl⟩ := (hR.blk (Blk.drew HT8.out) (by simp)).facts4
                      go_simp
                      exact hK.out _ _ ⟨_, rfl, Only.refl _ _, rfl⟩
                    · intro vals wr hR hp K hK
                      dsimp only at hK ⊢
                      clear hp
                      unfold RunsOp
                      go_simp
                      exact hK.out _ _ ⟨_, rfl, Only.refl _ _, rfl⟩
                    · intro vals wr hR hp K hK
                      dsimp only at hK ⊢
                      obtain ⟨p2, -⟩ := hp
                      replace p2 := p2 rfl
                      dsimp only at p2
                      rw [p2] at hK ⊢
                      clear p2
                      unfold RunsOp
                      obtain ⟨k0, k1, k2, k3, kl⟩ := (hR.blk (Blk.drew HN8.out) (by simp)).facts4
                      go_simp
                      exact hK.out _ _ ⟨_, rfl, Only.refl _ _, rfl⟩
                    · intro vals wr hR hp K hK
                      dsimp only at hK ⊢
                      obtain ⟨p1, p3, -⟩ := hp
                      replace p1 := p1 rfl
                      replace p3 := p3 rfl
                      dsimp only at p1 p3
                      rw [p1, p3] at hK ⊢
                      clear p1 p3
                      unfold RunsOp
                      obtain ⟨A5, c5, w5, hrun, ho5, oo5⟩ := run_app0 Vr.cs vcs_len vcs_one Tryd.underlying25 infoV66 rfl (by omega) (by omega) (w := wr) w8.heap.size (cz := c3) (AS := A3) (M := of) ((HRA9.out.keep ((Only.refl [] _).drew.trans hR (by simp))).src) (by have := HLN.out; omega) hR.size
                      refine runs_append hrun rfl _ _ rfl rfl rfl rfl ?_
                      exact hK.out _ _ ⟨_, rfl, oo5, _, _, rfl, ho5⟩
                    · intro vals wr hR hp K hK
                      dsimp only at hK ⊢
                      clear hp
                      unfold RunsOp
                      go_simp
                      exact hK.out _ _ ⟨_, rfl, Only.refl _ _, rfl⟩
                    · intro vals wr hR hp K hK
                      dsimp only at hK ⊢
                      obtain ⟨p5, -⟩ := hp
                      replace p5 := p5 rfl
                      dsimp only at p5
                      rw [p5] at hK ⊢
                      clear p5
                      unfold RunsOp
                      obtain ⟨k0, k1, k2, k3, kl⟩ := (hR.blk (Blk.drew HM8.out) (by simp)).facts4
                      go_simp
                      exact hK.out _ _ ⟨_, rfl, Only.refl _ _, rfl⟩
                  case donea9v =>
                    intro vals wd hR hF
                    have f0 : vals 0 = .pointer (some ⟨nb, 3, none⟩) := hF 0 (by decide)
                    have f1 : vals 1 = .slice none 0 0 := hF 1 (by decide)
                    have f2 : vals 2 = .pointer (some ⟨w.heap.size + 1, 3, none⟩) := hF 2 (by decide)
                    have f3 : vals 3 = .slice A3 of.length c3 := hF 3 (by decide)
                    have f5 : vals 5 = .pointer (some ⟨w.heap.size + 2, 3, none⟩) := hF 5 (by decide)
                    have f6 : vals 6 = .slice B3 mof.length d3 := hF 6 (by decide)
                    rw [f0, f1, f2, f3, f5, f6]
                    clear f0 f1 f2 f3 f5 f6
                    obtain ⟨A', c', f4, ho4⟩ := hF 4 (by decide)
                    rw [f4]
                    have HRl := Lib.hid ((Only.refl [] _).drew.trans hR (by simp))
                    obtain ⟨A5r9, c5r9, w5, hrun, ho5, oo5⟩ := run_appS Vr.cs vcs_len vcs_one Tryd.underlying25 infoV66 rfl (by omega) (by omega) (w := wd) (cz := d3) (AS := B3) (L := of) (M := mof) ho4 ((HRB9.out.keep HRl.out).src) (by have := HLN.out; omega) HRl.out.size
                    have HB5 := Lib.hid (fun p (hp : A' = some p) => (show w8.heap.size ≤ p.block from by subst hp; exact (ho4.lt p.block rfl).1))
                    have HA5r9 := Lib.hid (fun p (hp : A5r9 = some p) => (show w8.heap.size ≤ p.block from by subst hp; exact (ho5.lt p.block rfl).1))
                    have HO5 := Lib.hid (show Only [] w8 w5 from HRl.out.trans oo5 (fun x hx => .inr (by
                      cases A' with
                      | none => simp at hx
                      | some p => simp at hx; subst hx; exact HB5.out p rfl)))
                    have HR5 := Lib.hid (RowVr.ofApp ho5 (HRA9.out.keep HO5.out) (HRB9.out.keep HO5.out) (by have := HLN.out; rw [List.length_append]; omega))
                    rw [HV9.out] at hrun HR5
                    have HT5 := Lib.hid (HO5.out.blk HT8.out (by simp))
                    clear hR hF f4 ho4 ho5 oo5 HB5 HRl
                    obtain ⟨t0, t1, t2, t3, tl⟩ := HT5.out.facts4
                    have tg0 := HT5.out.frozen 0
                    have tg1 := HT5.out.frozen 1
                    have tg2 := HT5.out.frozen 2
                    have tg3 := HT5.out.frozen 3
                    gi_wp2_with (gi_at_builtin; refine wpListIn_append_run hrun rfl _ _ rfl rfl rfl rfl ?_)
                    go_wp2_with (fail)
                    have hset := HT5.out.set_ 3 (.slice A5r9 os.length c5r9)
                    have oset : Only [nb] w5 (w5.setCell ⟨nb, 3, none⟩ (.slice A5r9 os.length c5r9)) := (Only.refl [nb] w5).setCell (.inl (by simp)) _
                    obtain ⟨w9, hw9⟩ : ∃ W : World, w5.setCell ⟨nb, 3, none⟩ (.slice A5r9 os.length c5r9) = W := ⟨_, rfl⟩
                    rw [hw9] at hset oset ⊢
                    clear hw9 t0 t1 t2 t3 tl tg0 tg1 tg2 tg3 hrun
                    have HT9 := Lib.hid hset
                    have HQ9 := Lib.hid (show Only [] w w9 from (HQ8.out.trans HO5.out (by simp)).trans oset (fun x hx => .inr (by simp at hx; have := HNB9.out; omega)))
                    have HP9 := Lib.hid (show Only [] wd9 w9 from (HP8.out.trans HO5.out (by simp)).trans oset (fun x hx => .inr (by simp at hx; have := HNB8.out; omega)))
                    have HS9 := Lib.hid (show Only [nb] w8 w9 from (HO5.out.mono (fun _ h => by simp at h)).trans oset (fun x hx => .inl hx))
                    have HN9 := Lib.hid (HS9.out.blk HN8.out (by simp; have := HNB9.out; omega))
                    have HM9 := Lib.hid (HS9.out.blk HM8.out (by simp; have := HNB9.out; omega))
                    have HX9 := Lib.hid (HS9.out.blk HX8.out (by simp; have := HNB9.out; omega))
                    have HRW9v9 := Lib.hid (HR5.out.onlyG oset (fun i e he p hp => by have := HA5r9.out p hp; have := HT8.out.lt; simp; omega) (fun e he b hb => by have := HBL9.out e he b hb; have := HNB9.out; simp; omega))
                    have HTL9 := Lib.hid HT8.out.lt
                    have HRW7v9 := Lib.hid (HRW7v8.out.onlyG HS9.out (fun i e he p hp => by have := HA5r7.out p hp; have := HTL7.out; simp; omega) (fun e he b hb => by have := HBL7.out e he b hb; have := HNB9.out; simp; omega))
                    have HRW8v9 := Lib.hid (HRW8v8.out.onlyG HS9.out (fun i e he p hp => by have := HA5r8.out p hp; have := HTL8.out; simp; omega) (fun e he b hb => by have := HBL8.out e he b hb; have := HNB9.out; simp; omega))
                    clear hset oset HR5 HO5 HT5
                    obtain ⟨wz, hwz⟩ : ∃ wz : World, wz = w9 := ⟨_, rfl⟩
                    subst hwz
                    have HLNz := Lib.hid (show LiesN wz A5r7 vs A5r8 ps A5r9 os from ⟨HRW7v9.out, HRW8v9.out, HRW9v9.out⟩)
                    have HLW2 := Lib.hid HLNz.out.low
                    have HPL2 := Lib.hid HLNz.out.ports.low.1
                    have HB7 := Lib.hid HQ9.out.size
                    have HPE2 := Lib.hid (show (Ex.mk op n nm sb A cap args).tr.type ⟨vs.map Vr.tr, ps.map Pr.tr, true, os.map Vr.tr⟩ = (p1, 0) from by
                      rw [← HV7.out, ← HV8.out, ← HV9.out, List.map_append, List.map_append, List.map_append, ← HPE.out]
                      exact type_more ⟨vars.map Vr.tr, ports.map Pr.tr, true, of.map Vr.tr⟩ ⟨mvars.map Vr.tr, mports.map Pr.tr, mbag, mof.map Vr.tr⟩ _ (by rw [HPE.out]))
                    obtain ⟨pf, hpf⟩ : ∃ pf : Tt × Int, (p1, 0) = pf := ⟨_, rfl⟩
                    have HPF := Lib.hid hpf
                    rw [hpf] at HPE2
                    clear hpf
                    have CO2 := Lib.hid (fun W (o : Only [] wz W) => (show Calls Tryd.prog 11 #[.agg #[.slice A5r7 vs.length c5r7, .slice A5r8 ps.length c5r8, .bool true, .slice A5r9 os.length c5r9]] W (fun r w' => ∃ A1' c1' A3' c3', r = .returned (.agg #[.slice A1' vs.length c1', .slice A5r8 ps.length c5r8, .bool true, .slice A3' os.length c3']) ∧ LiesN w' A1' vs A5r8 ps A3' os ∧ (∀ p, A1' = some p → W.heap.size ≤ p.block) ∧ (∀ p, A3' = some p → W.heap.size ≤ p.block) ∧ Only [] W w') from of_any (A1 := A5r7) (A2 := A5r8) (A3 := A5r9) (vars := vs) (ports := ps) (of := os) (c1 := c5r7) (c2 := c5r8) (bag := true) (c3 := c5r9) (by have := HOA.out.l1; omega) (by have := HOA.out.l3; omega) (HLNz.out.keep o)))
                    have CT2 := Lib.hid (fun A1' c1' A3' c3' W (o : Only [] wz W) (hl : LiesN W A1' vs A5r8 ps A3' os) => (show Calls Tryd.prog 10 #[.agg #[.int .i64 op, .int .i64 n, .string nm, .string sb, .slice A args.length cap], .agg #[.slice A1' vs.length c1', .slice A5r8 ps.length c5r8, .bool true, .slice A3' os.length c3']] W fun r w' => RK w.heap.size W pf r w' from by rw [← HPE2.out]; exact type_any (B0 := w.heap.size) (c1 := c1') (c2 := c5r8) (bag := true) (c3 := c3') (e := .mk op n nm sb A cap args) HOA.out (HQ9.out.trans o (by simp)).size (HLE.out.keep (HQ9.out.trans o (by simp))) (HWD.out.keep (HQ9.out.trans o (by simp))) hl))
                    refine (wpIn_wide (n := 9)).1 ?_
                    refine wpIn_region_relG 9 (RelF wz.heap.size) (V9 wz) (FL w.heap.size wz pf (.agg #[.int .i64 op, .int .i64 n, .string nm, .string sb, .slice A args.length cap]) (.agg #[.slice A5r7 vs.length c5r7, .slice A5r8 ps.length c5r8, .bool true, .slice A5r9 os.length c5r9]) (OfAt vs ps os A5r8 c5r8 true)) none (fr := ?frtzv) (tl := ?tltzv) (.inl rfl) (by kernel_rfl) (by kernel_rfl) (by kernel_rfl) (by kernel_rfl) (by kernel_rfl) (by kernel_rfl) (by decide) ?htltzv ?hfrtzv (RelF.of (Only.refl _ _)) (fun _ _ _ h k => h.trans k) (fun ub hg => by cases hg) ?stepstzv ?donetzv
                    case htltzv => simp only [List.drop_succ_cons, List.drop_zero]; rfl
                    case hfrtzv => intro vals; simp only [putAll, dstAt, Act.put, List.getElem?_toArray, List.getElem?_cons_zero, List.getElem?_cons_succ, Option.bind_some, List.setIfInBounds_toArray, List.set_cons_zero, List.set_cons_succ]; rfl
                    case stepstzv =>
                      refine ⟨?_, ?_, ?_, ?_, ?_, ?_, ?_, ?_, ?_, trivial⟩
                      · intro g vals wr hR hV hp K hK
                        dsimp only at hK ⊢
                        replace hR := hR.only (Nat.le_refl _)
                        clear hp
                        unfold RunsOp
                        obtain ⟨k0, k1, k2, k3, k4, kl⟩ := (hR.blk (Blk.drew HX9.out) (by simp)).facts5
                        go_simp
                        exact hK.out _ _ ⟨_, g, rfl, RelF.of (Only.refl _ _), hV, rfl, fun _ _ _ _ h => h⟩
                      · intro g vals wr hR hV hp K hK
                        dsimp only at hK ⊢
                        replace hR := hR.only (Nat.le_refl _)
                        clear hp
                        unfold RunsOp
                        obtain ⟨k0, k1, k2, k3, kl⟩ := (hR.blk (Blk.drew HT9.out) (by simp)).facts4
                        go_simp
                        exact hK.out _ _ ⟨_, g, rfl, RelF.of (Only.refl _ _), hV, rfl, fun _ _ _ _ h => h⟩
                      · intro g vals wr hR hV hp K hK
                        dsimp only at hK ⊢
                        replace hR := hR.only (Nat.le_refl _)
                        obtain ⟨p1, -⟩ := hp
                        replace p1 := p1 rfl
                        replace p1 : vals 1 = .agg #[.slice A5r7 vs.length c5r7, .slice A5r8 ps.length c5r8, .bool true, .slice A5r9 os.length c5r9] := p1
                        rw [p1] at hK ⊢
                        clear p1
                        unfold RunsOp
                        have HV := Lib.hid hV
                        clear hV
                        go_simp
                        refine (CO2.out _ ((Only.refl [] _).drew.trans hR (by simp))).mono ?_
                        rintro e' w2 ⟨A1', c1', A3', c3', rfl, hl, n1', n3', o2⟩
                        exact hK.out _ _ ⟨_, g, rfl, RelF.of o2, HV.out.keep o2, ⟨A1', c1', A3', c3', rfl, hl, fun ub hg => by obtain ⟨h1, c0, c1, h1'⟩ := HV.out ub hg; have h2 := h1'.lt; exact ⟨fun i e he p hp => by have := n1' p hp; omega, fun i e he p hp => by have := n3' p hp; omega⟩⟩, fun _ _ _ _ h => FL.keep o2 (OfAt.keep o2) h⟩
                      · intro g vals wr hR hV hp K hK
                        dsimp only at hK ⊢
                        replace hR := hR.only (Nat.le_refl _)
                        obtain ⟨p0, p2, -, -⟩ := hp
                        replace p0 := p0 rfl
                        replace p2 := p2 rfl
                        replace p0 : vals 0 = .agg #[.int .i64 op, .int .i64 n, .string nm, .string sb, .slice A args.length cap] := p0
                        obtain ⟨A1', c1', A3', c3', e2, hl2, -⟩ := p2
                        rw [p0, e2] at hK ⊢
                        clear p0 e2
                        unfold RunsOp
                        have HV := Lib.hid hV
                        have HL2 := Lib.hid hl2
                        clear hV hl2
                        go_simp
                        refine (CT2.out _ _ _ _ _ ((Only.refl [] _).drew.trans hR (by simp)) HL2.out).mono ?_
                        rintro e' w2 ⟨zk, zA, zcap, zl, rfl, hc, o2⟩
                        exact hK.out _ _ ⟨_, g, rfl, RelF.of o2, HV.out.keep o2, ⟨zk, zA, zcap, zl, rfl, hc.low hR.size, fun ub hg hm => by obtain ⟨h1, c0, c1, h1'⟩ := HV.out ub hg; have h2 := h1'.lt; have h3 := HB7.out; rcases hc.off ub hm with h | h <;> omega⟩, fun _ _ _ _ h => FL.keep o2 (OfAt.keep o2) h⟩
                      · intro g vals wr hR hV hp K hK
                        dsimp only at hK ⊢
                        replace hR := hR.only (Nat.le_refl _)
                        obtain ⟨p3, -⟩ := hp
                        replace p3 := p3 rfl
                        obtain ⟨zk, zA, zcap, zl, e3, hc3, hn3⟩ := p3
                        rw [e3] at hK ⊢
                        clear e3
                        unfold RunsOp
                        have HC := Lib.hid (And.intro hc3 hn3)
                        clear hc3 hn3
                        go_simp
                        exact hK.out _ _ ⟨_, g, rfl, RelF.of (Only.refl _ _), hV, ⟨zk, zA, zcap, zl, rfl, HC.out.1, HC.out.2⟩, fun _ _ _ _ h => h⟩
                      · intro g vals wr hR hV hp K hK
                        dsimp only at hK ⊢
                        replace hR := hR.only (Nat.le_refl _)
                        obtain ⟨p4, -⟩ := hp
                        replace p4 := p4 rfl
                        obtain ⟨zk, zA, zcap, zl, e4, hc4, hn4⟩ := p4
                        rw [e4] at hK ⊢
                        clear e4
                        unfold RunsOp
                        have HC := Lib.hid (And.intro hc4 hn4)
                        clear hc4 hn4
                        go_simp
                        exact hK.out _ _ ⟨_, g, rfl, RelF.of (Only.refl _ _), hV, ⟨zk, zA, zcap, zl, rfl, HC.out.1, HC.out.2⟩, fun _ _ _ _ h => h⟩
                      · intro g vals wr hR hV hp K hK
                        dsimp only at hK ⊢
                        replace hR := hR.only (Nat.le_refl _)
                        obtain ⟨p4, -, -⟩ := hp
                        replace p4 := p4 rfl
                        obtain ⟨zk, zA, zcap, zl, e4, hc4, hn4⟩ := p4
                        rw [e4] at hK ⊢
                        clear e4
                        unfold RunsOp
                        clear hc4 hn4
                        go_simp
                        exact hK.out _ _ ⟨_, g, rfl, RelF.of (Only.refl _ _), hV, rfl, fun _ _ _ _ h => h⟩
                      · intro g vals wr hR hV hp K hK
                        dsimp only at hK ⊢
                        replace hR := hR.only (Nat.le_refl _)
                        clear hp
                        unfold RunsOp
                        have HV := Lib.hid hV
                        clear hV
                        have ho := (show Only [] wr (wr.alloc (.cells #[.int .i64 0, .slice none 0 0] 34)) from (Only.refl _ _).alloc _)
                        have hb := Blk.new wr 34 #[.int .i64 0, .slice none 0 0]
                        have HH := Lib.hid (And.intro ho (And.intro hb hR.size))
                        clear ho hb
                        go_simp
                        exact hK.out _ _ ⟨_, some wr.heap.size, rfl, RelF.of HH.out.1, fun ub hg => by injection hg with hg; subst hg; exact ⟨HH.out.2.2, _, _, HH.out.2.1⟩, ⟨_, rfl, rfl⟩, fun j u hj hn h => FL.laid hj (fun e => by subst e; exact Bool.noConfusion ((show _ = true by kernel_rfl).symm.trans hn)) HH.out.1 (OfAt.laid HH.out.1) h⟩
                      · intro g vals wr hR hV hp K hK
                        dsimp only at hK ⊢
                        replace hR := hR.only (Nat.le_refl _)
                        obtain ⟨p7, p5, -, -, -, -, -, -, -, -, -, -⟩ := hp
                        replace p7 := p7 rfl
                        replace p5 := p5 rfl
                        obtain ⟨ub, hg, e7⟩ := p7
                        obtain ⟨zk, zA, zcap, zl, e5, hc5, hn5⟩ := p5
                        rw [e7, e5] at hK ⊢
                        clear e7 e5
                        unfold RunsOp
                        obtain ⟨hvl, c0, c1, hvb⟩ := hV ub hg
                        obtain ⟨t0, t1, tl⟩ := hvb.facts2
                        have tg0 := hvb.frozen 0
                        have tg1 := hvb.frozen 1
                        have ho : Only [ub] wr ((wr.setCell ⟨ub, 0, none⟩ (.int .i64 zk)).setCell ⟨ub, 1, none⟩ (.slice zA zl.length zcap)) := ((Only.refl [ub] wr).setCell (.inl (by simp)) _).setCell (.inl (by simp)) _
                        have hb := (hvb.set_ 0 (.int .i64 zk)).set_ 1 (.slice zA zl.length zcap)
                        have HC := Lib.hid (And.intro hc5 (hn5 ub hg))
                        have HH := Lib.hid (And.intro ho (And.intro hb (And.intro hvl hV)))
                        clear ho hb hvb hV hc5 hn5 hvl
                        go_simp
                        exact hK.out _ _ ⟨.int .i64 0, g, rfl, ⟨[ub], fun x hx => by simp at hx; subst hx; exact HH.out.2.2.1, HH.out.1⟩, fun ub' hg' => by obtain rfl : ub = ub' := (by rw [hg] at hg'; injection hg'); exact ⟨HH.out.2.2.1, _, _, HH.out.2.1⟩, ⟨ub, zk, zA, zcap, zl, hg, HH.out.2.1, ⟨HC.out.1.tr, HC.out.1.lies.only HH.out.1 (fun x hx hm => by simp at hm; subst hm; exact HC.out.2 hx), HC.out.1.off⟩, HC.out.2⟩, fun _ _ hj _ h => FL.set hg hj HH.out.1 (OfAt.set HLW2.out HPL2.out HH.out.2.2.1 hg HH.out.1) h⟩
                    case donetzv =>
                      intro g vals wdz hR hV hF
                      have f6 : vals 6 = .int .i64 pf.2 := hF 6 (by decide)
                      obtain ⟨ub, hg, f7⟩ := hF 7 (by decide)
                      obtain ⟨ub', zk, zA, zcap, zl, hg', hTB, hTK, hnb⟩ := hF 8 (by decide)
                      obtain rfl : ub = ub' := (by rw [hg] at hg'; injection hg')
                      have HUL := Lib.hid (hV ub hg).1
                      replace hR := hR.only (Nat.le_refl _)
                      rw [f6, f7]
                      clear f6 f7
                      have HSR := Lib.hid ((Only.refl [] _).drew.trans hR (by simp))
                      have HUB := Lib.hid hTB
                      have HUK := Lib.hid hTK
                      have HVB := Lib.hid hnb
                      clear hR hV hF hg hg' hTK hnb hTB
                      rw [← HPF.out] at HUK ⊢
                      dsimp only at HUK ⊢
                      have HTB2 := Lib.hid (HSR.out.blk (HP9.out.blk HTB.out (by simp)) (by simp))
                      have HO9 := Lib.hid (HQ9.out.trans HSR.out (by simp))
                      have HYT := Lib.hid (And.intro HTK.out.tr ((HTK.out.lies.keep HP9.out).keep HSR.out))
                      have HZT := Lib.hid (And.intro HUK.out.tr HUK.out.lies)
                      have CC := Lib.hid (refsameT (.mk yk yA ycap yl) (.mk zk zA zcap zl) _ HYT.out.2 HZT.out.2)
                      rw [HYT.out.1, HZT.out.1, show p1.same p1 = true from (Tt.same_iff _ _).2 rfl] at CC
                      have CD := Lib.hid (fun W (o : Only [] wdz W) => refrightT (.mk yk yA ycap yl) W (HYT.out.2.keep o) 3 (by omega))
                      rw [HYT.out.1, HTO.out] at CD
                      obtain ⟨t0, t1, tl⟩ := HTB2.out.facts2
                      obtain ⟨u0, u1, ul⟩ := HUB.out.facts2
                      gi_wp2_with (fail)
                      go_wp2_with (fail)
                      refine CC.out.mono ?_
                      rintro r w10 ⟨rfl, o10⟩
                      have HTB3 := Lib.hid (o10.blk HTB2.out (by simp))
                      have HO10 := Lib.hid o10
                      clear t0 t1 tl u0 u1 ul o10
                      obtain ⟨t0, t1, tl⟩ := HTB3.out.facts2
                      go_wp2_with (fail)
                      refine (CD.out _ HO10.out).mono ?_
                      rintro r w11 ⟨rfl, o11⟩
                      go_wp2_with (fail)
                      go_ret
                      exact ⟨rfl, (HO9.out.trans HO10.out (by simp)).trans o11 (by simp)⟩
          · gi_wp2_with (fail)
            go_wp2_with (fail)
            go_ret
            exact ⟨rfl, HO5.out⟩
end Go.Proofs.YtjhpckeoackblaaDoor
