/- LinkOrder: the law's own walk. -/
import Derived.Test.YtlhmhpopppfpkaaGrid
namespace Go.Proofs.Ytlhmhpopppfpkaa
open Go.RowKit Go.Kx Go.Maps
set_option maxRecDepth 100000

theorem order_many {A : Option Addr} {cap : Nat} {L : List Ac} {n room : Int} {w : World} (hl : 200 < L.length) (hlen : L.length ≤ 9223372036854775807) :
    Calls Try.prog 3 #[.int .u8 n, .int .u8 room, .slice A L.length cap] w fun e w' => e = .returned (.bool true) ∧ Only [] w w' := by
  have hg : decide ((200 : Int) < (L.length : Int)) = true := by simp; omega
  go_enter Try.func3, Try.ntmps3
  go_wp2_with (fail)
  refine (awake_any _).mono ?_
  rintro e w1 ⟨rfl, o1⟩
  go_wp2_with (fail)
  refine (awake_any _).mono ?_
  rintro e w2 ⟨rfl, o2⟩
  go_wp2_with (fail)
  go_ret
  exact ⟨rfl, o1.trans o2 (by simp)⟩
def Z64 : Array Value := #[.int .i64 0, .int .i64 0, .int .i64 0, .int .i64 0, .int .i64 0, .int .i64 0, .int .i64 0, .int .i64 0, .int .i64 0, .int .i64 0, .int .i64 0, .int .i64 0, .int .i64 0, .int .i64 0, .int .i64 0, .int .i64 0, .int .i64 0, .int .i64 0, .int .i64 0, .int .i64 0, .int .i64 0, .int .i64 0, .int .i64 0, .int .i64 0, .int .i64 0, .int .i64 0, .int .i64 0, .int .i64 0, .int .i64 0, .int .i64 0, .int .i64 0, .int .i64 0, .int .i64 0, .int .i64 0, .int .i64 0, .int .i64 0, .int .i64 0, .int .i64 0, .int .i64 0, .int .i64 0, .int .i64 0, .int .i64 0, .int .i64 0, .int .i64 0, .int .i64 0, .int .i64 0, .int .i64 0, .int .i64 0, .int .i64 0, .int .i64 0, .int .i64 0, .int .i64 0, .int .i64 0, .int .i64 0, .int .i64 0, .int .i64 0, .int .i64 0, .int .i64 0, .int .i64 0, .int .i64 0, .int .i64 0, .int .i64 0, .int .i64 0, .int .i64 0]
theorem grid_new (w : World) : Grid (w.alloc (.cells Z64 29)) w.heap.size (fun _ _ => 0) :=
  ⟨Z64, Blk.new w 29 Z64, rfl, fun x y hx hy => by
    have h : ∀ i : Nat, i < 64 → Z64[i]? = some (.int .i64 0) := by
      have e : Z64 = Array.replicate 64 (.int .i64 0) := rfl
      intro i hi
      rw [e, Array.getElem?_replicate, if_pos hi]
    exact h _ (by omega)⟩
/-- the net and both rows of numbers -/
structure OB (w0 w : World) (g bm k R : Nat) (Ls : List (Pr × Lane)) (sb gb : Nat) (S G : Nat → Nat → Nat) : Prop where
  nb : NB w0.heap.size w g bm k R Ls
  s : Grid w sb S
  t : Grid w gb G
  off : Off w g bm Ls [sb, gb]
  ne : sb ≠ gb
  lo : w0.heap.size ≤ sb ∧ w0.heap.size ≤ gb
  o : Only [] w0 w
theorem OB.keep {w0 w w' : World} {g bm k R : Nat} {Ls : List (Pr × Lane)} {sb gb : Nat} {S G : Nat → Nat → Nat} (h : OB w0 w g bm k R Ls sb gb S G) (o : Only [] w w') : OB w0 w' g bm k R Ls sb gb S G :=
  ⟨h.nb.keep o, h.s.only o (by simp), h.t.only o (by simp), h.off.next o.size (fun _ h => .inl h), h.ne, h.lo, h.o.trans o (by simp)⟩
theorem OB.net {w0 w w' : World} {g bm k R : Nat} {Ls Ls' : List (Pr × Lane)} {sb gb : Nat} {S G : Nat → Nat → Nat} (h : OB w0 w g bm k R Ls sb gb S G) (hn : NB w0.heap.size w' g bm k R Ls') (o : Only (netS bm Ls) w w') (hf : ∀ x ∈ netS bm Ls', x ∈ netS bm Ls ∨ w.heap.size ≤ x) : OB w0 w' g bm k R Ls' sb gb S G :=
  ⟨hn, h.s.only o (fun hm => (h.off sb (by simp)).2 (List.mem_cons_of_mem _ hm)), h.t.only o (fun hm => (h.off gb (by simp)).2 (List.mem_cons_of_mem _ hm)), h.off.next o.size hf, h.ne, h.lo, h.o.trans o (h.nb.fresh (Nat.le_refl _))⟩
theorem OB.setS {w0 w : World} {g bm k R : Nat} {Ls : List (Pr × Lane)} {sb gb : Nat} {S G : Nat → Nat → Nat} (h : OB w0 w g bm k R Ls sb gb S G) {a b : Nat} (ha : a < 8) (hb : b < 8) {v : Value} (hv : v = .int .i64 ((S a b : Int) + 1)) : OB w0 (w.setCell ⟨sb, a * 8 + b, none⟩ v) g bm k R Ls sb gb (bump S a b) G := by
  have o := only_setCell w ⟨sb, a * 8 + b, none⟩ v
  refine ⟨h.nb.only o (fun x hx hm => ?_), h.s.bump ha hb hv, h.t.only o (by simp; exact fun e => h.ne e.symm), fun x hx => ⟨by have := (h.off x hx).1; have := o.size; omega, (h.off x hx).2⟩, h.ne, h.lo, h.o.trans o (fun x hx => ?_)⟩
  · simp at hm; subst hm; exact (h.off _ (by simp)).2 hx
  · simp at hx; subst hx; exact .inr h.lo.1
theorem OB.setG {w0 w : World} {g bm k R : Nat} {Ls : List (Pr × Lane)} {sb gb : Nat} {S G : Nat → Nat → Nat} (h : OB w0 w g bm k R Ls sb gb S G) {a b : Nat} (ha : a < 8) (hb : b < 8) {v : Value} (hv : v = .int .i64 ((G a b : Int) + 1)) : OB w0 (w.setCell ⟨gb, a * 8 + b, none⟩ v) g bm k R Ls sb gb S (bump G a b) := by
  have o := only_setCell w ⟨gb, a * 8 + b, none⟩ v
  refine ⟨h.nb.only o (fun x hx hm => ?_), h.s.only o (by simp; exact h.ne), h.t.bump ha hb hv, fun x hx => ⟨by have := (h.off x hx).1; have := o.size; omega, (h.off x hx).2⟩, h.ne, h.lo, h.o.trans o (fun x hx => ?_)⟩
  · simp at hm; subst hm; exact (h.off _ (by simp)).2 hx
  · simp at hx; subst hx; exact .inr h.lo.2
theorem bump_up {S : Nat → Nat → Nat} {i a b : Nat} (h : ∀ x y, S x y ≤ i) : ∀ x y, bump S a b x y ≤ i + 1 := fun x y => by
  have := h x y
  unfold bump
  split <;> omega
theorem ix_of (a : Int) {k : Nat} (hk : 1 ≤ k ∧ k ≤ 8) : ∃ n : Nat, n < k ∧ wrap64 ((IntKind.u64.wrap a).tmod k) = n := by
  have h0 : 0 ≤ IntKind.u64.wrap a := by simp [IntKind.wrap, IntKind.signed, IntKind.bits]; omega
  have h1 : (IntKind.u64.wrap a).tmod k = IntKind.u64.wrap a % k := Int.tmod_eq_emod_of_nonneg h0
  have h2 : 0 ≤ IntKind.u64.wrap a % (k : Int) := Int.emod_nonneg _ (by omega)
  have h3 : IntKind.u64.wrap a % (k : Int) < k := Int.emod_lt_of_pos _ (by omega)
  refine ⟨(IntKind.u64.wrap a % (k : Int)).toNat, by omega, ?_⟩
  rw [h1]
  have : wrap64 (IntKind.u64.wrap a % (k : Int)) = IntKind.u64.wrap a % (k : Int) := by
    unfold wrap64
    omega
  rw [this]
  omega
set_option maxHeartbeats 4000000 in
theorem order_few {A : Option Addr} {cap : Nat} {L : List Ac} {z r : Int} {w : World} (hL : Acs w A L) (hl : L.length ≤ 200) (hz : 0 ≤ z ∧ z ≤ 255) (hr : 0 ≤ r ∧ r ≤ 255) :
    Calls Try.prog 3 #[.int .u8 z, .int .u8 r, .slice A L.length cap] w fun e w' => e = .returned (.bool true) ∧ Only [] w w' := by
  have hg : decide ((200 : Int) < (L.length : Int)) = false := by simp; omega
  have HL := Lib.hid hL
  obtain ⟨k, hk⟩ : ∃ k : Nat, (2 + z % 7 : Int) = k := ⟨(2 + z % 7).toNat, by omega⟩
  obtain ⟨R, hR⟩ : ∃ R : Nat, (1 + r : Int) = R := ⟨(1 + r).toNat, by omega⟩
  have hk2 : 2 ≤ k ∧ k ≤ 8 := by omega
  have hR2 : 1 ≤ R ∧ R ≤ 256 := by omega
  have t := fun w => new_net k R (by omega) (by omega) w
  clear hL
  go_enter Try.func3, Try.ntmps3
  go_wp2_with (fail)
  refine (awake_any _).mono ?_
  rintro e w1 ⟨rfl, o1⟩
  have HO1 := Lib.hid o1
  clear o1
  go_wp2_with (fail)
  refine (t w1).mono ?_
  rintro e w2 ⟨rfl, h2, o2⟩
  have hB : OB w ((w2.alloc (.cells Z64 29)).alloc (.cells Z64 29)) (w1.heap.size + 1) w1.heap.size k R [] w2.heap.size (w2.heap.size + 1) (fun _ _ => 0) (fun _ _ => 0) := by
    have oa : Only [] w2 (w2.alloc (.cells Z64 29)) := (Only.refl _ _).alloc _
    have ob : Only [] (w2.alloc (.cells Z64 29)) ((w2.alloc (.cells Z64 29)).alloc (.cells Z64 29)) := (Only.refl _ _).alloc _
    have oab := oa.trans ob (by simp)
    have e1 : (w2.alloc (.cells Z64 29)).heap.size = w2.heap.size + 1 := Array.size_push _
    have gb := grid_new (w2.alloc (.cells Z64 29))
    rw [e1] at gb
    have o12 := HO1.out.trans o2 (by simp)
    refine ⟨(h2.low HO1.out.size).keep oab, (grid_new w2).only ob (by simp), gb, fun x hx => ?_, by omega, ⟨o12.size, Nat.le_succ_of_le o12.size⟩, o12.trans oab (by simp)⟩
    have hlt := gb.lt
    simp at hx
    refine ⟨by rcases hx with rfl | rfl <;> omega, fun hm => ?_⟩
    have := h2.below x hm
    rcases hx with rfl | rfl <;> omega
  have HB := Lib.hid hB
  have hz2 : w1.heap.size + 1 < w2.heap.size := h2.blk.lt
  clear t HO1 h2 o2 hk hR hB
  go_wp2_with (fail)
  change Code.wp _ _ _ _ ((w2.alloc (.cells Z64 29)).alloc (.cells Z64 29))
  generalize (w2.alloc (.cells Z64 29)).alloc (.cells Z64 29) = w3 at HB ⊢
  obtain ⟨sb, hsb⟩ : ∃ sb, w2.heap.size = sb := ⟨_, rfl⟩
  obtain ⟨gb, hgb⟩ : ∃ gb, sb + 1 = gb := ⟨_, rfl⟩
  obtain ⟨g, hgd⟩ : ∃ g, w1.heap.size + 1 = g := ⟨_, rfl⟩
  obtain ⟨bm, hbm⟩ : ∃ bm, w1.heap.size = bm := ⟨_, rfl⟩
  rw [hsb, hgb, hgd, hbm] at HB
  rw [hsb, hgb, hgd] at ⊢
  clear hsb hgb hgd hbm hz2
  go_loopw [12] (fun u wr => ∃ (i : Nat) (Ls : List (Pr × Lane)) (S G : Nat → Nat → Nat), u = .int .i64 i ∧ i ≤ L.length ∧ Ls.length ≤ i ∧ total Ls ≤ i ∧ (∀ x y, S x y ≤ i) ∧ OR k Ls S G ∧ OB w wr g bm k R Ls sb gb S G) (fun u _ => L.length - (intOf u).toNat)
  case atStart => exact ⟨0, [], _, _, rfl, Nat.zero_le _, Nat.le_refl _, Nat.le_refl _, fun _ _ => Nat.le_refl _, OR.nil k, HB.out⟩
  case round =>
    clear HB
    obtain ⟨i, Ls, S, G, rfl, hi, hls, htt, hS, hOR, hB⟩ := hrel
    have HB := Lib.hid hB
    have HOR := Lib.hid hOR
    have HS := Lib.hid hS
    by_cases hlt : i < L.length
    · obtain ⟨⟨⟨hd0, hd1⟩, ha, hb, hv⟩, p, o, rfl, pb, c0, c1', c2, c3⟩ := (HL.out.only hB.o) i L[i] (List.getElem?_eq_getElem hlt)
      generalize L[i] = q at hd0 hd1 ha hb hv c0 c1' c2 c3
      obtain ⟨d, a, b, v⟩ := q
      dsimp only at hd0 hd1 ha hb hv c0 c1' c2 c3
      have iz0 : (0 : Int) ≤ (i : Int) := by omega
      have iz1 : (i : Int) < (L.length : Int) := by omega
      clear hB hOR hS
      go_wp2_with (fail)
      go_quiet (fail)
      obtain ⟨x, hx, ex⟩ := ix_of a (k := k) (by omega)
      obtain ⟨y, hy, ey⟩ := ix_of b (k := k) (by omega)
      rw [ex, ey]
      obtain ⟨x0, x1⟩ := HB.out.s.at_ (x := x) (y := y) (by omega) (by omega)
      have HW : Only [] wr (wr.drewN nq) := (Only.refl _ _).drewN _
      have HB' := Lib.hid (HB.out.keep HW)
      generalize wr.drewN nq = w4 at HB' HW ⊢
      have e4 : w4.cell? ⟨p, o + i * 4, none⟩ = some (.int .u8 d) := (HW.cell (p := ⟨p, _, none⟩) pb (by simp)).trans c0
      have p4 : p < w4.heap.size := by have := HW.size; omega
      obtain ⟨s0, s1⟩ := HB'.out.s.at_ (x := x) (y := y) (by omega) (by omega)
      obtain ⟨r0, r1⟩ := HB'.out.t.at_ (x := x) (y := y) (by omega) (by omega)
      have sl := HB'.out.s.lt
      have rl := HB'.out.t.lt
      have HK := Lib.hid hk2
      clear c0 c1' c2 c3 x0 x1 HW HB ex ey pb hk2 hR2
      have ix : (x : Int) < 8 := by have := HK.out; omega
      have iy : (y : Int) < 8 := by have := HK.out; omega
      have hSx := HS.out x y
      by_cases h3 : d % 5 < 3
      · as_aux_lemma =>
        have t := send_any HB'.out.nb HB'.out.o.size (a := x) (b := y) (S x y) ⟨by omega, by omega⟩ ⟨by omega, by omega⟩ (by omega)
        by_cases hs : sendE k R Ls x y = 0
        · have hsd : (sendE k R Ls x y == 0) = true := by simp [hs]
          have hab : x ≠ y := fun e => by
            unfold sendE at hs
            rw [if_pos (by unfold Bad; omega)] at hs
            cases hs
          go_wp2_with (fail)
          refine t.mono ?_
          clear t s0 s1 r0 r1 sl rl e4 p4
          rintro e w5 ⟨rfl, Ls', hN, h0, -, o5, hf⟩
          have hs1 := h0 hs
          have HB5 := Lib.hid (HB'.out.net hN o5 hf)
          have HOR5 := Lib.hid (HOR.out.sent hx hy hab hs1)
          have hl5 := hs1.len
          have ht5 := hs1.tot
          obtain ⟨s0, s1⟩ := HB5.out.s.at_ (x := x) (y := y) (by omega) (by omega)
          have sl := HB5.out.s.lt
          clear hN h0 o5 hf hs1 HB' HOR hs
          go_wp2_with (fail)
          go_region
          go_wp2_with (fail)
          go_roundw
          case rel => exact ⟨i + 1, Ls', bump S x y, G, by go_num, by omega, by omega, by omega, bump_up HS.out, HOR5.out, (HB5.out.setS (by omega) (by omega) (by first | rfl | go_num)).keep (by first | exact Only.refl [] _ | exact Only.drew (Only.refl [] _) | exact Only.drewN (Only.refl [] _) _)⟩
          case measure => simp [intOf]; omega
        · have hsd : (sendE k R Ls x y == 0) = false := by simp [hs]
          go_wp2_with (fail)
          refine t.mono ?_
          clear t s0 s1 r0 r1 sl rl e4 p4
          rintro e w5 ⟨rfl, Ls', hN, -, h1, o5, hf⟩
          have h1 := h1 hs
          subst h1
          have HB5 := Lib.hid (HB'.out.net hN o5 hf)
          clear hN o5 hf HB' hs
          go_wp2_with (fail)
          go_roundw
          case rel => exact ⟨i + 1, Ls', S, G, by go_num, by omega, by omega, by omega, fun x y => Nat.le_succ_of_le (HS.out x y), HOR.out, HB5.out⟩
          case measure => simp [intOf]; omega
      · as_aux_lemma =>
        have t := take_any HB'.out.nb HB'.out.o.size (a := x) (b := y) ⟨by omega, by omega⟩ ⟨by omega, by omega⟩
        have hnd := HB'.out.nb.nd
        have htl := total_tail hnd ((x : Int), (y : Int))
        by_cases hlg : G x y < S x y
        · obtain ⟨hxs, hOR5⟩ := HOR.out.took hnd hx hy HK.out.2 hlg
          have hab : ((x : Int) == (y : Int)) = false := by
            have := HOR.out.diag x
            by_cases e : x = y
            · subst e; omega
            · simp; omega
          have hld : decide ((G x y : Int) < (S x y : Int)) = true := by simp; omega
          rw [hxs] at t
          simp only [hdI, anyI, List.headD_cons, List.isEmpty_cons, Bool.not_false] at t
          have HOR5 := Lib.hid hOR5
          have hG5 : (G x y : Int) ≤ 200 := by omega
          clear hxs hOR5 hnd HOR
          go_wp2_with (fail)
          refine t.mono ?_
          clear t s0 s1 r0 r1 sl rl e4 p4
          rintro e w5 ⟨rfl, hN, o5⟩
          have hB5 := HB'.out.net hN o5 (fun x hx => .inl (tailX_bs x hx))
          obtain ⟨s0, s1⟩ := hB5.s.at_ (x := x) (y := y) (by omega) (by omega)
          obtain ⟨r0, r1⟩ := hB5.t.at_ (x := x) (y := y) (by omega) (by omega)
          have sl := hB5.s.lt
          have rl := hB5.t.lt
          have HB5 := Lib.hid hB5
          clear hN o5 hB5 HB'
          go_wp2_with (fail)
          go_quiet (fail)
          go_wp2_with (fail)
          go_region
          go_wp2_with (fail)
          go_roundw
          case rel => exact ⟨i + 1, _, S, bump G x y, by go_num, by omega, by rw [tailX_length]; omega, by omega, fun x y => Nat.le_succ_of_le (HS.out x y), HOR5.out, (HB5.out.setG (by omega) (by omega) (by first | rfl | go_num)).keep (by first | exact Only.refl [] _ | exact Only.drew (Only.refl [] _) | exact Only.drewN (Only.refl [] _) _)⟩
          case measure => simp [intOf]; omega
        · obtain ⟨hxs, hOR5⟩ := HOR.out.took_none hnd (a := x) (b := y) (by omega) (by omega) hlg
          have hld : decide ((G x y : Int) < (S x y : Int)) = false := by simp; omega
          rw [hxs] at t
          simp only [hdI, anyI, List.headD_nil, List.isEmpty_nil, Bool.not_true] at t
          have HOR5 := Lib.hid hOR5
          clear hxs hOR5 hnd HOR
          go_wp2_with (fail)
          refine t.mono ?_
          clear t s0 s1 r0 r1 sl rl e4 p4
          rintro e w5 ⟨rfl, hN, o5⟩
          have hB5 := HB'.out.net hN o5 (fun x hx => .inl (tailX_bs x hx))
          obtain ⟨s0, s1⟩ := hB5.s.at_ (x := x) (y := y) (by omega) (by omega)
          obtain ⟨r0, r1⟩ := hB5.t.at_ (x := x) (y := y) (by omega) (by omega)
          have sl := hB5.s.lt
          have rl := hB5.t.lt
          have HB5 := Lib.hid hB5
          clear hN o5 hB5 HB'
          go_wp2_with (fail)
          go_quiet (fail)
          go_wp2_with (fail)
          go_roundw
          case rel => exact ⟨i + 1, _, S, G, by go_num, by omega, by rw [tailX_length]; omega, by omega, fun x y => Nat.le_succ_of_le (HS.out x y), HOR5.out, HB5.out.keep ((Only.refl [] _).drewN _)⟩
          case measure => simp [intOf]; omega
    · have iz1 : ¬ (i : Int) < (L.length : Int) := by omega
      clear hB hOR hS
      have hbd : ∀ i2 j, i2 < k → j ≤ k → sumN i2 (fun x => sumN k fun y => S x y - G x y) + sumN j (fun y => S i2 y - G i2 y) ≤ 200 := fun i2 j h1 h2 => by
        have e1 := HOR.out.tot
        have e2 : sumN (i2 + 1) (fun x => sumN k fun y => S x y - G x y) ≤ dbl k fun x y => S x y - G x y := sumN_le h1
        have e3 : sumN (i2 + 1) (fun x => sumN k fun y => S x y - G x y) = sumN i2 (fun x => sumN k fun y => S x y - G x y) + sumN k (fun y => S i2 y - G i2 y) := rfl
        have e4 : sumN j (fun y => S i2 y - G i2 y) ≤ sumN k (fun y => S i2 y - G i2 y) := sumN_le h2
        omega
      have htot := HOR.out.tot
      have hle := HOR.out.le
      have HBD := Lib.hid hbd
      have HTT := Lib.hid htot
      have HTL := Lib.hid htt
      have HLE := Lib.hid hle
      clear hbd htot hle htt hR2
      have HK := Lib.hid hk2
      clear hk2
      go_wp2_with (fail)
      go_loopw [17, 18] (fun u v ws => ∃ i2 : Nat, u = .int .i64 ((sumN i2 fun x => sumN k fun y => S x y - G x y : Nat) : Int) ∧ v = .int .i64 i2 ∧ i2 ≤ k ∧ OB w ws g bm k R Ls sb gb S G) (fun _ v _ => k - (intOf v).toNat)
      case atStart => exact ⟨0, rfl, rfl, Nat.zero_le _, HB.out⟩
      case round =>
        clear HB
        obtain ⟨i2, rfl, rfl, hi2, hB2⟩ := hrel
        have HB2 := Lib.hid hB2
        clear hB2
        have HK8 := HK.out.2
        by_cases hlt2 : i2 < k
        · have iz2 : (i2 : Int) < (k : Int) := by omega
          have iz3 : (i2 : Int) < 8 := by omega
          have iz4 : (0 : Int) ≤ (i2 : Int) := by omega
          go_wp2_with (fail)
          go_loopw [17, 19] (fun u v ws => ∃ j : Nat, u = .int .i64 ((sumN i2 (fun x => sumN k fun y => S x y - G x y) + sumN j (fun y => S i2 y - G i2 y) : Nat) : Int) ∧ v = .int .i64 j ∧ j ≤ k ∧ OB w ws g bm k R Ls sb gb S G) (fun _ v _ => k - (intOf v).toNat)
          case atStart => exact ⟨0, rfl, rfl, Nat.zero_le _, HB2.out⟩
          case round =>
            obtain ⟨j, rfl, rfl, hj, hB3⟩ := hrel
            by_cases hlt3 : j < k
            · have jz2 : (j : Int) < (k : Int) := by omega
              have jz3 : (j : Int) < 8 := by omega
              have jz4 : (0 : Int) ≤ (j : Int) := by omega
              obtain ⟨s0, -⟩ := hB3.s.at_ (x := i2) (y := j) (by omega) (by omega)
              obtain ⟨r0, -⟩ := hB3.t.at_ (x := i2) (y := j) (by omega) (by omega)
              have sl := hB3.s.lt
              have rl := hB3.t.lt
              have HB3 := Lib.hid hB3
              have b1 := HBD.out i2 j hlt2 hj
              have b2 := HS.out i2 j
              have b3 := HLE.out i2 j
              have hstep : sumN (j + 1) (fun y => S i2 y - G i2 y) = sumN j (fun y => S i2 y - G i2 y) + (S i2 j - G i2 j) := rfl
              have HST := Lib.hid hstep
              clear hB3 hstep
              generalize hT : sumN i2 (fun x => sumN k fun y => S x y - G x y) = T at b1 HST ⊢
              generalize hU : sumN j (fun y => S i2 y - G i2 y) = U at b1 HST ⊢
              generalize hs : S i2 j = s at s0 b2 b3 HST
              generalize hg2 : G i2 j = q at r0 b3 HST
              have b4 : ((T + U : Nat) : Int) ≤ 200 := by omega
              generalize hV : T + U = V at b4 ⊢
              clear hs hg2 hT hU
              go_wp2_with (fail)
              go_quiet (fail)
              go_wp2_with (fail)
              go_roundw

              case rel => exact ⟨j + 1, by rw [HST.out]; congr 1; omega, by go_num, by omega, HB3.out.keep ((Only.refl [] _).drewN _)⟩
              case measure => simp [intOf]; omega
            · have hje : j = k := by omega
              have jz2 : ¬ (j : Int) < (k : Int) := by omega
              have HB3 := Lib.hid hB3
              clear hB3
              go_wp2_with (fail)
              go_roundw
              case rel => exact ⟨i2 + 1, by rw [hje]; rfl, by go_num, by omega, HB3.out⟩
              case measure => simp [intOf]; omega
        · have hie : i2 = k := by omega
          have iz2 : ¬ (i2 : Int) < (k : Int) := by omega
          have hnl := len_net HB2.out.nb (by have := HTL.out; omega)
          rw [HTT.out] at hnl
          have he : sumN i2 (fun x => sumN k fun y => S x y - G x y) = dbl k fun x y => S x y - G x y := by rw [hie]; rfl
          rw [he]
          generalize (dbl k fun x y => S x y - G x y) = D at hnl ⊢
          have hdd : ((D : Int) == (D : Int)) = true := by simp
          clear hie he
          go_wp2_with (fail)
          refine hnl.mono ?_
          clear hnl
          rintro e w9 ⟨rfl, o9⟩
          have HO9 := Lib.hid (HB2.out.o.trans o9 (by simp))
          clear o9
          go_wp2_with (fail)
          go_ret
          exact ⟨rfl, HO9.out⟩
theorem linkorder_any {A : Option Addr} {cap : Nat} {L : List Ac} {n room : Int} {w : World} (hL : Acs w A L) (hlen : L.length ≤ 9223372036854775807) (hn : 0 ≤ n ∧ n ≤ 255) (hr : 0 ≤ room ∧ room ≤ 255) :
    Calls Try.prog 3 #[.int .u8 n, .int .u8 room, .slice A L.length cap] w fun e w' => e = .returned (.bool true) ∧ Only [] w w' := by
  by_cases h : 200 < L.length
  · exact order_many h hlen
  · exact order_few hL (by omega) hn hr
end Go.Proofs.Ytlhmhpopppfpkaa
