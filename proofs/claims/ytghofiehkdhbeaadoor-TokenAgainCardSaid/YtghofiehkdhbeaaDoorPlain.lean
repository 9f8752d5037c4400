/- Words, as the document has them; are two lists of words the same? -/
import Derived.Test.YtghofiehkdhbeaaDoorText
namespace Go.Proofs.YtghofiehkdhbeaaDoor
open Go.RowKit Go.Kx Go.Tok
set_option maxRecDepth 100000

theorem neqW (k1 k2 n1 n2 p1 p2 : Int) (s1 s2 : List UInt8) (W : World) : (binOp .neq 41 (.agg #[.int .i64 k1, .string ⟨s1.toArray⟩, .int .i64 n1, .int .i64 p1]) (.agg #[.int .i64 k2, .string ⟨s2.toArray⟩, .int .i64 n2, .int .i64 p2])).run Tryd.prog W = .ok (.bool (!decide (k1 = k2 ∧ s1 = s2 ∧ n1 = n2 ∧ p1 = p2))) W := by
  by_cases h : k1 = k2 <;> by_cases h2 : s1 = s2 <;> by_cases h3 : n1 = n2 <;> by_cases h4 : p1 = p2 <;> simp [go_sem, h, h2, h3, h4]
theorem eqW (k1 k2 n1 n2 p1 p2 : Int) (s1 s2 : List UInt8) (W : World) : (binOp .eql 28 (.agg #[.int .i64 k1, .string ⟨s1.toArray⟩, .int .i64 n1, .int .i64 p1]) (.agg #[.int .i64 k2, .string ⟨s2.toArray⟩, .int .i64 n2, .int .i64 p2])).run Tryd.prog W = .ok (.bool (decide (k1 = k2 ∧ s1 = s2 ∧ n1 = n2 ∧ p1 = p2))) W := by
  by_cases h : k1 = k2 <;> by_cases h2 : s1 = s2 <;> by_cases h3 : n1 = n2 <;> by_cases h4 : p1 = p2 <;> simp [go_sem, h, h2, h3, h4]
theorem word_dec (x y : Word) : decide ((x.t.kind : Int) = y.t.kind ∧ x.t.s = y.t.s ∧ (x.t.n : Int) = y.t.n ∧ (x.at_ : Int) = y.at_) = decide (x = y) := by
  rw [decide_eq_decide]
  obtain ⟨⟨a, b, c⟩, d⟩ := x
  obtain ⟨⟨a2, b2, c2⟩, d2⟩ := y
  constructor
  · rintro ⟨h1, h2, h3, h4⟩
    dsimp only at h1 h2 h3 h4
    obtain rfl : a = a2 := by omega
    obtain rfl : c = c2 := by omega
    obtain rfl : d = d2 := by omega
    rw [h2]
  · intro h
    cases h
    simp
/-- a row of words, wherever it lies -/
def RowW (w : World) (A : Option Addr) (M : List Word) : Prop := ∀ j u, (flatW M)[j]? = some u → ∃ b o, A = some ⟨b, o, none⟩ ∧ b < w.heap.size ∧ w.cell? ⟨b, o + j, none⟩ = some u
theorem RowW.keep {w w' : World} {A : Option Addr} {M : List Word} (h : RowW w A M) (ho : Only [] w w') : RowW w' A M := fun j u hu => by
  obtain ⟨b, o, hA, hb, hc⟩ := h j u hu
  exact ⟨b, o, hA, Nat.lt_of_lt_of_le hb ho.size, (ho.cell (p := ⟨b, o + j, none⟩) hb (by simp)).trans hc⟩
theorem RowW.only {S : List Nat} {w w' : World} {A : Option Addr} {M : List Word} (h : RowW w A M) (ho : Only S w w') (hn : ∀ p, A = some p → p.block ∉ S) : RowW w' A M := fun j u hu => by
  obtain ⟨b, o, hA, hb, hc⟩ := h j u hu
  have hn' := hn _ hA
  exact ⟨b, o, hA, Nat.lt_of_lt_of_le hb ho.size, (ho.cell (p := ⟨b, o + j, none⟩) hb hn').trans hc⟩
theorem RowW.keepC {B : Nat} {w w' : World} {A : Option Addr} {M : List Word} (h : RowW w A M) (ho : KeepC B w w') : RowW w' A M := fun j u hu => by
  obtain ⟨b, o, hA, hb, hc⟩ := h j u hu
  exact ⟨b, o, hA, Nat.lt_of_lt_of_le hb ho.size, ho.cell hc⟩
theorem own_rowW {W : World} {base n cap : Nat} {A : Option Addr} {t : TypeId} {L : List Word} (hn : n = L.length) (h : W.ownsRow base t 4 (.slice A n cap) n (flatW L)) : RowW W A L := by
  intro j u hu
  have hj : j < (flatW L).length := (List.getElem?_eq_some_iff.1 hu).1
  rw [flatW_length] at hj
  rcases h.2 with ⟨h1, h2⟩ | ⟨g, cap', cur, h1, _, hg, hnc, _, hcs, hcur⟩
  · omega
  · injection h1 with h1 _ _
    subst h1
    refine ⟨g, 0, rfl, (Array.getElem?_eq_some_iff.1 hg).1, ?_⟩
    rw [Nat.zero_add]
    have hb : Blk W g t cur := hg
    rw [hb.cell]
    rw [← hcur] at hu
    rw [List.getElem?_take] at hu
    split at hu
    · simpa using hu
    · cases hu
theorem RowW.at {w : World} {A : Option Addr} {M : List Word} (h : RowW w A M) {k : Nat} {x : Word} (hx : M[k]? = some x) :
    ∃ b o, A = some ⟨b, o, none⟩ ∧ b < w.heap.size ∧ w.cell? ⟨b, o + k * 4, none⟩ = some (.int .i64 x.t.kind) ∧ w.cell? ⟨b, o + k * 4 + 1, none⟩ = some (.string ⟨x.t.s.toArray⟩) ∧ w.cell? ⟨b, o + k * 4 + 2, none⟩ = some (.int .i64 x.t.n) ∧ w.cell? ⟨b, o + k * 4 + 3, none⟩ = some (.int .i64 x.at_) := by
  have f := flatW_at M k x hx
  obtain ⟨b, o, rfl, hb, c0⟩ := h (k * 4 + 0) _ ((f 0 (by omega)).trans rfl)
  refine ⟨b, o, rfl, hb, by simpa using c0, ?_, ?_, ?_⟩
  · obtain ⟨b', o', hA, _, c⟩ := h (k * 4 + 1) _ ((f 1 (by omega)).trans rfl)
    cases hA
    simpa [Nat.add_assoc] using c
  · obtain ⟨b', o', hA, _, c⟩ := h (k * 4 + 2) _ ((f 2 (by omega)).trans rfl)
    cases hA
    simpa [Nat.add_assoc] using c
  · obtain ⟨b', o', hA, _, c⟩ := h (k * 4 + 3) _ ((f 3 (by omega)).trans rfl)
    cases hA
    simpa [Nat.add_assoc] using c
/-- append(v, x) of one word that lies in a block of its own -/
theorem run_appendZ {ts e : TypeId} {zz : Value} {w : World} {base n z : Nat} {v : Value} {xs : List Value} (hts : Tryd.prog.underlying ts = some (.slice e)) (hinfo : ((Tryd.prog.info? e).map fun i => (i.zero, i.size, i.bytes)) = some (some zz, 4, 40)) (hzz : zz.cells.size = 4)
    (hown : w.ownsRow base e 4 v n xs) (x : Word) (hz : Blk w z e #[.int .i64 x.t.kind, .string ⟨x.t.s.toArray⟩, .int .i64 x.t.n, .int .i64 x.at_]) (hbase : base ≤ w.heap.size) (hn : n ≤ 100000001) (ty : TypeId) :
    ∃ g cap w1, (Builtin.append_ #[ts, ts] ty #[v, .slice (some ⟨z, 0, none⟩) 1 1]).run Tryd.prog w = .ok (.slice (some ⟨g, 0, none⟩) (n + 1) cap) w1 ∧
      w1.ownsRow base e 4 (.slice (some ⟨g, 0, none⟩) (n + 1) cap) (n + 1) (xs ++ cellsW x) ∧ Only v.ownBlock.toList w w1 ∧ (v.ownBlock = some g ∨ w.heap.size ≤ g) := by
  obtain ⟨i, hi, h0, h1, h2⟩ := info_parts hinfo
  obtain ⟨v', w1, hr, ho, hg, hn, hat⟩ := run_append_own_at (P := Tryd.prog) w base ts ty e i _ 4 40 hts hi h0 h1 h2 hzz (by omega) v n xs hown ⟨z, 0, none⟩ 1 1 (cellsW x) rfl
    (by intro j u hj
        rw [Addr.add_lit, Nat.zero_add]
        refine (hz.cell j).trans ?_
        rw [← hj]
        simp [cellsW])
    (by intro u hu; simp [cellsW] at hu; rcases hu with rfl | rfl | rfl | rfl <;> rfl) (by unfold maxLen; omega) (by omega) hbase
  rcases ho.2 with ⟨rfl, hn0⟩ | ⟨g, cap, cur, rfl, hrest⟩
  · omega
  · refine ⟨g, cap, w1, hr, ho, Only.of_grownBy hg, ?_⟩
    rcases hat with h | h
    · left; rw [← h]; rfl
    · right; simp [Value.ownBlock] at h; omega
theorem ref_info : ((Tryd.prog.info? 41).map fun i => (i.zero, i.size, i.bytes)) = some (some (.agg #[.int .i64 0, .string ⟨#[]⟩, .int .i64 0, .int .i64 0]), 4, 40) := by kernel_rfl
theorem own_base {w : World} {base base' : Nat} {e : TypeId} {size : Nat} {v : Value} {n : Nat} {xs : List Value} (h : w.ownsRow base e size v n xs) (hb : base' ≤ base) : w.ownsRow base' e size v n xs := by
  obtain ⟨h1, h2⟩ := h
  refine ⟨h1, ?_⟩
  rcases h2 with h2 | ⟨g, cap, cur, rfl, hg, r⟩
  · exact .inl h2
  · exact .inr ⟨g, cap, cur, rfl, by omega, r⟩
set_option maxHeartbeats 4000000 in
theorem plain_any {w : World} {A : Option Addr} {c : Nat} {ws : List Word} (hR : RowW w A ws) (hn : ws.length ≤ 100000001) :
    Calls Tryd.prog 12 #[.slice A ws.length c] w fun e w' => (∃ A' c', e = .returned (.slice A' ws.length c') ∧ w'.ownsRow w.heap.size 41 4 (.slice A' ws.length c') ws.length (flatW ws)) ∧ Only [] w w' := by
  have HR := Lib.hid hR
  clear hR
  go_enter Tryd.func12, Tryd.ntmps12
  go_wp2_with (fail)
  go_loopw [3, 4] (fun v i wr => ∃ (k : Nat) (A2 : Option Addr) (c2 : Nat), i = .int .i64 k ∧ v = .slice A2 k c2 ∧ k ≤ ws.length ∧ Hid (wr.ownsRow w.heap.size 41 4 (.slice A2 k c2) k (flatW (ws.take k))) ∧ Only [] w wr) (fun _ i _ => ws.length - (intOf i).toNat)
  case atStart => exact ⟨0, none, 0, rfl, rfl, Nat.zero_le _, Lib.hid (World.ownsRow_nil _ _ _ _), Only.refl _ _⟩
  case round =>
    obtain ⟨wq, rfl⟩ : ∃ wq : World, wq = wr := ⟨_, rfl⟩
    obtain ⟨k, A2, c2, rfl, rfl, hk, HOW, hO⟩ := hrel
    have HO := Lib.hid hO
    clear hO
    by_cases hlt : k < ws.length
    · obtain ⟨x, hx⟩ : ∃ x, ws[k]? = some x := ⟨_, List.getElem?_eq_getElem hlt⟩
      have HFL := Lib.hid (take_snocW hx)
      obtain ⟨b, o, rfl, hb, c0, c1, c2', c3⟩ := (HR.out.keep HO.out).at hx
      have HC := Lib.hid (show b < wq.heap.size ∧ wq.cell? ⟨b, o + k * 4, none⟩ = some (.int .i64 x.t.kind) ∧ wq.cell? ⟨b, o + k * 4 + 1, none⟩ = some (.string ⟨x.t.s.toArray⟩) ∧ wq.cell? ⟨b, o + k * 4 + 2, none⟩ = some (.int .i64 x.t.n) ∧ wq.cell? ⟨b, o + k * 4 + 3, none⟩ = some (.int .i64 x.at_) from ⟨hb, c0, c1, c2', c3⟩)
      have hki : (0 : Int) ≤ (k : Int) := by omega
      have hki2 : (k : Int) < (ws.length : Int) := by omega
      clear hx hb c0 c1 c2' c3
      go_wp2_with (fail)
      refine (wpIn_wide (n := 9)).1 ?_
      refine wpIn_region_relR 23 (Only []) (fr := ?frg) (tl := ?tlg) (fun iq v wv => match iq with
        | 0 => v = .slice A2 k c2
        | 1 => v = .slice (some ⟨b, o, none⟩) ws.length c
        | 2 => v = .int .i64 (k : Nat)
        | 3 => v = .pointer (some ⟨b, o + k * 4, none⟩)
        | 4 => v = .pointer (some ⟨b, o + k * 4, none⟩)
        | 5 => v = .int .i64 x.t.kind
        | 6 => v = .slice (some ⟨b, o, none⟩) ws.length c
        | 7 => v = .int .i64 (k : Nat)
        | 8 => v = .pointer (some ⟨b, o + k * 4, none⟩)
        | 9 => v = .pointer (some ⟨b, o + k * 4 + 1, none⟩)
        | 10 => v = .string ⟨x.t.s.toArray⟩
        | 11 => v = .slice (some ⟨b, o, none⟩) ws.length c
        | 12 => v = .int .i64 (k : Nat)
        | 13 => v = .pointer (some ⟨b, o + k * 4, none⟩)
        | 14 => v = .pointer (some ⟨b, o + k * 4 + 2, none⟩)
        | 15 => v = .int .i64 x.t.n
        | 16 => v = .slice (some ⟨b, o, none⟩) ws.length c
        | 17 => v = .int .i64 (k : Nat)
        | 18 => v = .pointer (some ⟨b, o + k * 4, none⟩)
        | 19 => v = .pointer (some ⟨b, o + k * 4 + 3, none⟩)
        | 20 => v = .int .i64 x.at_
        | 21 => v = .agg #[.int .i64 x.t.kind, .string ⟨x.t.s.toArray⟩, .int .i64 x.t.n, .int .i64 x.at_]
        | 22 => ∃ z, v = .slice (some ⟨z, 0, none⟩) 1 1 ∧ Blk wv z 41 #[.int .i64 x.t.kind, .string ⟨x.t.s.toArray⟩, .int .i64 x.t.n, .int .i64 x.at_]
        | _ => True) (.inl rfl) (by kernel_rfl) (by kernel_rfl) (by kernel_rfl) (by kernel_rfl) (by kernel_rfl) (by kernel_rfl) (by decide) ?htlg ?hfrg (Only.refl _ _) (fun _ _ _ h k => h.trans k (fun _ hx => .inl hx)) ?stabg ?stepsg ?doneg
      case htlg => simp only [List.drop_succ_cons, List.drop_zero]; rfl
      case hfrg => intro vals; simp only [putAll, dstAt, Act.put, List.getElem?_toArray, List.getElem?_cons_zero, List.getElem?_cons_succ, Option.bind_some, List.setIfInBounds_toArray, List.set_cons_zero, List.set_cons_succ]; rfl
      case stabg =>
        intro i v wa wb h
        try dsimp only
        split <;> first | exact id | (rintro ⟨z, h1, h2⟩; exact ⟨z, h1, h.blk h2 (by simp)⟩)
      case stepsg =>
        refine ⟨?_, ?_, ?_, ?_, ?_, ?_, ?_, ?_, ?_, ?_, ?_, ?_, ?_, ?_, ?_, ?_, ?_, ?_, ?_, ?_, ?_, ?_, ?_, trivial⟩
        · intro vals wr hR hp K hK
          dsimp only at hK ⊢
          clear hp
          unfold RunsOp
          go_simp
          exact hK.out _ _ ⟨_, rfl, Only.refl _ _, rfl⟩
        · intro vals wr hR hp K hK
          dsimp only at hK ⊢
          clear hp
          unfold RunsOp
          go_simp
          exact hK.out _ _ ⟨_, rfl, Only.refl _ _, rfl⟩
        · intro vals wr hR hp K hK
          dsimp only at hK ⊢
          clear hp
          unfold RunsOp
          go_simp
          exact hK.out _ _ ⟨_, rfl, Only.refl _ _, rfl⟩
        · intro vals wr hR hp K hK
          dsimp only at hK ⊢
          obtain ⟨p1, p2, -⟩ := hp
          replace p1 := p1 rfl
          replace p2 := p2 rfl
          dsimp only at p1 p2
          rw [p1, p2] at hK ⊢
          clear p1 p2
          unfold RunsOp
          go_simp
          exact hK.out _ _ ⟨_, rfl, Only.refl _ _, rfl⟩
        · intro vals wr hR hp K hK
          dsimp only at hK ⊢
          obtain ⟨p3, -⟩ := hp
          replace p3 := p3 rfl
          dsimp only at p3
          rw [p3] at hK ⊢
          clear p3
          unfold RunsOp
          go_simp
          exact hK.out _ _ ⟨_, rfl, Only.refl _ _, rfl⟩
        · intro vals wr hR hp K hK
          dsimp only at hK ⊢
          obtain ⟨p4, -⟩ := hp
          replace p4 := p4 rfl
          dsimp only at p4
          rw [p4] at hK ⊢
          clear p4
          unfold RunsOp
          have k0 := (hR.cell (p := ⟨b, o + k * 4, none⟩) HC.out.1 (by simp)).trans HC.out.2.1
          go_simp
          exact hK.out _ _ ⟨_, rfl, Only.refl _ _, rfl⟩
        · intro vals wr hR hp K hK
          dsimp only at hK ⊢
          clear hp
          unfold RunsOp
          go_simp
          exact hK.out _ _ ⟨_, rfl, Only.refl _ _, rfl⟩
        · intro vals wr hR hp K hK
          dsimp only at hK ⊢
          clear hp
          unfold RunsOp
          go_simp
          exact hK.out _ _ ⟨_, rfl, Only.refl _ _, rfl⟩
        · intro vals wr hR hp K hK
          dsimp only at hK ⊢
          obtain ⟨p6, p7, -⟩ := hp
          replace p6 := p6 rfl
          replace p7 := p7 rfl
          dsimp only at p6 p7
          rw [p6, p7] at hK ⊢
          clear p6 p7
          unfold RunsOp
          go_simp
          exact hK.out _ _ ⟨_, rfl, Only.refl _ _, rfl⟩
        · intro vals wr hR hp K hK
          dsimp only at hK ⊢
          obtain ⟨p8, -⟩ := hp
          replace p8 := p8 rfl
          dsimp only at p8
          rw [p8] at hK ⊢
          clear p8
          unfold RunsOp
          go_simp
          exact hK.out _ _ ⟨_, rfl, Only.refl _ _, rfl⟩
        · intro vals wr hR hp K hK
          dsimp only at hK ⊢
          obtain ⟨p9, -⟩ := hp
          replace p9 := p9 rfl
          dsimp only at p9
          rw [p9] at hK ⊢
          clear p9
          unfold RunsOp
          have k1 := (hR.cell (p := ⟨b, o + k * 4 + 1, none⟩) HC.out.1 (by simp)).trans HC.out.2.2.1
          go_simp
          exact hK.out _ _ ⟨_, rfl, Only.refl _ _, rfl⟩
        · intro vals wr hR hp K hK
          dsimp only at hK ⊢
          clear hp
          unfold RunsOp
          go_simp
          exact hK.out _ _ ⟨_, rfl, Only.refl _ _, rfl⟩
        · intro vals wr hR hp K hK
          dsimp only at hK ⊢
          clear hp
          unfold RunsOp
          go_simp
          exact hK.out _ _ ⟨_, rfl, Only.refl _ _, rfl⟩
        · intro vals wr hR hp K hK
          dsimp only at hK ⊢
          obtain ⟨p11, p12, -⟩ := hp
          replace p11 := p11 rfl
          replace p12 := p12 rfl
          dsimp only at p11 p12
          rw [p11, p12] at hK ⊢
          clear p11 p12
          unfold RunsOp
          go_simp
          exact hK.out _ _ ⟨_, rfl, Only.refl _ _, rfl⟩
        · intro vals wr hR hp K hK
          dsimp only at hK ⊢
          obtain ⟨p13, -⟩ := hp
          replace p13 := p13 rfl
          dsimp only at p13
          rw [p13] at hK ⊢
          clear p13
          unfold RunsOp
          go_simp
          exact hK.out _ _ ⟨_, rfl, Only.refl _ _, rfl⟩
        · intro vals wr hR hp K hK
          dsimp only at hK ⊢
          obtain ⟨p14, -⟩ := hp
          replace p14 := p14 rfl
          dsimp only at p14
          rw [p14] at hK ⊢
          clear p14
          unfold RunsOp
          have k2 := (hR.cell (p := ⟨b, o + k * 4 + 2, none⟩) HC.out.1 (by simp)).trans HC.out.2.2.2.1
          go_simp
          exact hK.out _ _ ⟨_, rfl, Only.refl _ _, rfl⟩
        · intro vals wr hR hp K hK
          dsimp only at hK ⊢
          clear hp
          unfold RunsOp
          go_simp
          exact hK.out _ _ ⟨_, rfl, Only.refl _ _, rfl⟩
        · intro vals wr hR hp K hK
          dsimp only at hK ⊢
          clear hp
          unfold RunsOp
          go_simp
          exact hK.out _ _ ⟨_, rfl, Only.refl _ _, rfl⟩
        · intro vals wr hR hp K hK
          dsimp only at hK ⊢
          obtain ⟨p16, p17, -⟩ := hp
          replace p16 := p16 rfl
          replace p17 := p17 rfl
          dsimp only at p16 p17
          rw [p16, p17] at hK ⊢
          clear p16 p17
          unfold RunsOp
          go_simp
          exact hK.out _ _ ⟨_, rfl, Only.refl _ _, rfl⟩
        · intro vals wr hR hp K hK
          dsimp only at hK ⊢
          obtain ⟨p18, -⟩ := hp
          replace p18 := p18 rfl
          dsimp only at p18
          rw [p18] at hK ⊢
          clear p18
          unfold RunsOp
          go_simp
          exact hK.out _ _ ⟨_, rfl, Only.refl _ _, rfl⟩
        · intro vals wr hR hp K hK
          dsimp only at hK ⊢
          obtain ⟨p19, -⟩ := hp
          replace p19 := p19 rfl
          dsimp only at p19
          rw [p19] at hK ⊢
          clear p19
          unfold RunsOp
          have k3 := (hR.cell (p := ⟨b, o + k * 4 + 3, none⟩) HC.out.1 (by simp)).trans HC.out.2.2.2.2
          go_simp
          exact hK.out _ _ ⟨_, rfl, Only.refl _ _, rfl⟩
        · intro vals wr hR hp K hK
          dsimp only at hK ⊢
          obtain ⟨p5, p10, p15, p20, -⟩ := hp
          replace p5 := p5 rfl
          replace p10 := p10 rfl
          replace p15 := p15 rfl
          replace p20 := p20 rfl
          dsimp only at p5 p10 p15 p20
          rw [p5, p10, p15, p20] at hK ⊢
          clear p5 p10 p15 p20
          unfold RunsOp
          go_simp
          exact hK.out _ _ ⟨_, rfl, Only.refl _ _, rfl⟩
        · intro vals wr hR hp K hK
          dsimp only at hK ⊢
          obtain ⟨p21, -⟩ := hp
          replace p21 := p21 rfl
          dsimp only at p21
          rw [p21] at hK ⊢
          clear p21
          unfold RunsOp
          have hz := Blk.new wr 41 #[.int .i64 x.t.kind, .string ⟨x.t.s.toArray⟩, .int .i64 x.t.n, .int .i64 x.at_]
          go_simp
          exact hK.out _ _ ⟨_, rfl, (Only.refl [] wr).alloc _, _, rfl, hz⟩
      case doneg =>
        intro vals wd hR hF
        have f0 : vals 0 = .slice A2 k c2 := hF 0 (by decide)
        have f1 : vals 1 = .slice (some ⟨b, o, none⟩) ws.length c := hF 1 (by decide)
        have f2 : vals 2 = .int .i64 (k : Nat) := hF 2 (by decide)
        have f3 : vals 3 = .pointer (some ⟨b, o + k * 4, none⟩) := hF 3 (by decide)
        have f4 : vals 4 = .pointer (some ⟨b, o + k * 4, none⟩) := hF 4 (by decide)
        have f5 : vals 5 = .int .i64 x.t.kind := hF 5 (by decide)
        have f6 : vals 6 = .slice (some ⟨b, o, none⟩) ws.length c := hF 6 (by decide)
        have f7 : vals 7 = .int .i64 (k : Nat) := hF 7 (by decide)
        have f8 : vals 8 = .pointer (some ⟨b, o + k * 4, none⟩) := hF 8 (by decide)
        have f9 : vals 9 = .pointer (some ⟨b, o + k * 4 + 1, none⟩) := hF 9 (by decide)
        have f10 : vals 10 = .string ⟨x.t.s.toArray⟩ := hF 10 (by decide)
        have f11 : vals 11 = .slice (some ⟨b, o, none⟩) ws.length c := hF 11 (by decide)
        have f12 : vals 12 = .int .i64 (k : Nat) := hF 12 (by decide)
        have f13 : vals 13 = .pointer (some ⟨b, o + k * 4, none⟩) := hF 13 (by decide)
        have f14 : vals 14 = .pointer (some ⟨b, o + k * 4 + 2, none⟩) := hF 14 (by decide)
        have f15 : vals 15 = .int .i64 x.t.n := hF 15 (by decide)
        have f16 : vals 16 = .slice (some ⟨b, o, none⟩) ws.length c := hF 16 (by decide)
        have f17 : vals 17 = .int .i64 (k : Nat) := hF 17 (by decide)
        have f18 : vals 18 = .pointer (some ⟨b, o + k * 4, none⟩) := hF 18 (by decide)
        have f19 : vals 19 = .pointer (some ⟨b, o + k * 4 + 3, none⟩) := hF 19 (by decide)
        have f20 : vals 20 = .int .i64 x.at_ := hF 20 (by decide)
        have f21 : vals 21 = .agg #[.int .i64 x.t.kind, .string ⟨x.t.s.toArray⟩, .int .i64 x.t.n, .int .i64 x.at_] := hF 21 (by decide)
        have f22 : ∃ z, (vals 22) = .slice (some ⟨z, 0, none⟩) 1 1 ∧ Blk wd z 41 #[.int .i64 x.t.kind, .string ⟨x.t.s.toArray⟩, .int .i64 x.t.n, .int .i64 x.at_] := hF 22 (by decide)
        rw [f0, f1, f2, f3, f4, f5, f6, f7, f8, f9, f10, f11, f12, f13, f14, f15, f16, f17, f18, f19, f20, f21]
        clear f0 f1 f2 f3 f4 f5 f6 f7 f8 f9 f10 f11 f12 f13 f14 f15 f16 f17 f18 f19 f20 f21
        obtain ⟨z, f22, hz⟩ := f22
        rw [f22]
        have hod : Only [] wq wd := (Only.refl [] wq).drew.trans hR (by simp)
        have hHO := HO.out
        obtain ⟨g, cap, w4, hrun, how4, o4, hg4⟩ := run_appendZ (ts := 31) (e := 41) Tryd.underlying31 ref_info rfl (ownsRow_only hod HOW.out (by simp)) x hz (by have := hHO.size; have := hod.size; omega) (by omega) 31
        have HOW4 := Lib.hid (show w4.ownsRow w.heap.size 41 4 (.slice (some ⟨g, 0, none⟩) (k + 1) cap) (k + 1) (flatW (ws.take (k + 1))) by rw [HFL.out]; exact how4)
        have HO4 := Lib.hid (show Only [] w w4 from (hHO.trans hod (by simp)).trans o4 (fun b hb => .inr (by
          cases A2 with
          | none => simp [Value.ownBlock] at hb
          | some p => simp [Value.ownBlock] at hb; subst hb; exact (HOW.out.lt p.block rfl).1)))
        clear f22 hR hF hz how4 o4 hg4 hod hHO
        gi_wp2_with (gi_at_builtin; refine wpListIn_append_run hrun rfl _ _ rfl rfl rfl rfl ?_; clear hrun)
        go_wp2_with (fail)
        go_roundw
        case rel => exact ⟨k + 1, some ⟨g, 0, none⟩, cap, by go_num, rfl, by omega, HOW4, HO4.out⟩
        case measure => simp [intOf]; omega
    · obtain rfl : k = ws.length := by omega
      go_wp2_with (fail)
      go_ret
      exact ⟨⟨A2, c2, rfl, by have := HOW.out; rwa [List.take_length] at this⟩, HO.out⟩
theorem take_eq_of {L M : List Word} (h : L.take L.length = M.take L.length) (hl : L.length = M.length) : L = M := by
  rw [List.take_length, hl, List.take_length] at h; exact h
set_option maxHeartbeats 4000000 in
theorem rsame_any {w : World} {A A' : Option Addr} {c c' : Nat} {L M : List Word} (hR : RowW w A L) (hR' : RowW w A' M) (hn : L.length ≤ 100000001) (_hm : M.length ≤ 100000001) :
    Calls Tryd.prog 11 #[.slice A L.length c, .slice A' M.length c'] w fun e w' => e = .returned (.bool (decide (L = M))) ∧ Only [] w w' := by
  have HL := Lib.hid hR
  have HM := Lib.hid hR'
  clear hR hR'
  by_cases hl : L.length = M.length
  · have e1 : ((L.length : Int) != (M.length : Int)) = false := by simp [hl]
    have e2 : (L.length != M.length) = false := by simp [hl]
    have HE := Lib.hid hl
    clear hl
    go_enter Tryd.func11, Tryd.ntmps11
    go_wp2_with (fail)
    go_loopw [5] (fun i wr => ∃ k : Nat, i = .int .i64 k ∧ k ≤ L.length ∧ Hid (L.take k = M.take k) ∧ Only [] w wr) (fun i _ => L.length - (intOf i).toNat)
    case atStart => exact ⟨0, rfl, Nat.zero_le _, Lib.hid rfl, Only.refl _ _⟩
    case round =>
      clear e1 e2
      obtain ⟨k, rfl, hk, HT, hO⟩ := hrel
      have HO := Lib.hid hO
      clear hO
      by_cases hlt : k < L.length
      · obtain ⟨x, hx⟩ : ∃ x, L[k]? = some x := ⟨_, List.getElem?_eq_getElem hlt⟩
        obtain ⟨y, hy⟩ : ∃ y, M[k]? = some y := ⟨_, List.getElem?_eq_getElem (by have := HE.out; omega)⟩
        have HX := Lib.hid hx
        have HY := Lib.hid hy
        obtain ⟨b, o, rfl, hb, c0, c1, c2, c3⟩ := (HL.out.keep HO.out).at hx
        obtain ⟨b', o', rfl, hb', d0, d1, d2, d3⟩ := (HM.out.keep HO.out).at hy
        have hki : (0 : Int) ≤ (k : Int) := by omega
        have hki2 : (k : Int) < (L.length : Int) := by omega
        have hki3 : (k : Int) < (M.length : Int) := by have := HE.out; omega
        have hq := fun W => neqW x.t.kind y.t.kind x.t.n y.t.n x.at_ y.at_ x.t.s y.t.s W
        rw [word_dec] at hq
        clear hx hy
        cases he : decide (x = y) with
        | true =>
          rw [he] at hq
          have hxy : x = y := of_decide_eq_true he
          have HXY := Lib.hid (show L.take (k + 1) = M.take (k + 1) by rw [List.take_add_one, List.take_add_one, HT.out, HX.out, HY.out, hxy])
          clear he hxy
          have hq2 : ∀ W, (binOp .neq 41 (.agg #[.int .i64 x.t.kind, .string ⟨x.t.s.toArray⟩, .int .i64 x.t.n, .int .i64 x.at_]) (.agg #[.int .i64 y.t.kind, .string ⟨y.t.s.toArray⟩, .int .i64 y.t.n, .int .i64 y.at_])).run Tryd.prog W = .ok (.bool false) W := hq
          clear hq
          go_wp2_with (fail)
          go_quiet (fail)
          go_wp2_with (fail)
          go_roundw
          case rel => exact ⟨k + 1, by go_num, by omega, HXY, by first | exact HO.out | exact HO.out.drewN _⟩
          case measure => simp [intOf]; omega
        | false =>
          rw [he] at hq
          have hxy : x ≠ y := of_decide_eq_false he
          have HXY := Lib.hid (show L ≠ M from fun h => hxy (by have h1 := HX.out; have h2 := HY.out; rw [h, h2] at h1; exact (Option.some.inj h1).symm))
          clear he hxy
          have hq2 : ∀ W, (binOp .neq 41 (.agg #[.int .i64 x.t.kind, .string ⟨x.t.s.toArray⟩, .int .i64 x.t.n, .int .i64 x.at_]) (.agg #[.int .i64 y.t.kind, .string ⟨y.t.s.toArray⟩, .int .i64 y.t.n, .int .i64 y.at_])).run Tryd.prog W = .ok (.bool true) W := hq
          clear hq
          go_wp2_with (fail)
          go_quiet (fail)
          go_wp2_with (fail)
          go_ret
          exact ⟨by rw [decide_eq_false HXY.out]; rfl, by first | exact HO.out | exact HO.out.drewN _⟩
      · obtain rfl : k = L.length := by omega
        go_wp2_with (fail)
        go_ret
        exact ⟨by rw [decide_eq_true (take_eq_of HT.out HE.out)]; rfl, HO.out⟩
  · have e1 : ((L.length : Int) != (M.length : Int)) = true := by simp; omega
    have e2 : (L.length != M.length) = true := by simp [hl]
    have HE := Lib.hid (show L ≠ M from fun h => hl (by rw [h]))
    clear hl
    go_enter Tryd.func11, Tryd.ntmps11
    go_wp2_with (fail)
    go_ret
    exact ⟨by rw [decide_eq_false HE.out]; rfl, Only.refl _ _⟩
end Go.Proofs.YtghofiehkdhbeaaDoor
