/- The document's SameModel: unequal structs, and two new structs laid in any order. -/
import Derived.Test.YtfnacnlaphpflaaDoorPSame
import Derived.Test.YtfnacnlaphpflaaDoorFactsG
namespace Go.Proofs.YtfnacnlaphpflaaDoor
open Go.RowKit Go.Kx
open Go.Val (Tt)
set_option maxRecDepth 100000
theorem neq_Pa (xn : ByteArray) (xm : ByteArray) (yn : ByteArray) (ym : ByteArray) (W : World) : (binOp .neq 106 (.agg #[.string xn, .string xm]) (.agg #[.string yn, .string ym])).run Tryd.prog W = .ok (.bool (!(Pa.same (.mk xn xm) (.mk yn ym)))) W := by
  simp only [Pa.same, Pa.n_, Pa.m_, eqS]
  by_cases h0 : xn.toList = yn.toList
  · by_cases h1 : xm.toList = ym.toList
    · simp [go_sem, h0, h1]
    · simp [go_sem, h0, h1]
  · simp [go_sem, h0]
theorem neq_Lk (xa : ByteArray) (xb : ByteArray) (xc : ByteArray) (xd : ByteArray) (ya : ByteArray) (yb : ByteArray) (yc : ByteArray) (yd : ByteArray) (W : World) : (binOp .neq 112 (.agg #[.string xa, .string xb, .string xc, .string xd]) (.agg #[.string ya, .string yb, .string yc, .string yd])).run Tryd.prog W = .ok (.bool (!(Lk.same (.mk xa xb xc xd) (.mk ya yb yc yd)))) W := by
  simp only [Lk.same, Lk.a_, Lk.b_, Lk.c_, Lk.d_, eqS]
  by_cases h0 : xa.toList = ya.toList
  · by_cases h1 : xb.toList = yb.toList
    · by_cases h2 : xc.toList = yc.toList
      · by_cases h3 : xd.toList = yd.toList
        · simp [go_sem, h0, h1, h2, h3]
        · simp [go_sem, h0, h1, h2, h3]
      · simp [go_sem, h0, h1, h2]
    · simp [go_sem, h0, h1]
  · simp [go_sem, h0]
theorem neq_Ac (xk : Int) (xn : ByteArray) (xm : ByteArray) (xa : ByteArray) (xb : ByteArray) (xc : ByteArray) (xd : ByteArray) (yk : Int) (yn : ByteArray) (ym : ByteArray) (ya : ByteArray) (yb : ByteArray) (yc : ByteArray) (yd : ByteArray) (W : World) : (binOp .neq 120 (.agg #[.int .i64 xk, .string xn, .string xm, .string xa, .string xb, .string xc, .string xd]) (.agg #[.int .i64 yk, .string yn, .string ym, .string ya, .string yb, .string yc, .string yd])).run Tryd.prog W = .ok (.bool (!(Ac.same (.mk xk xn xm xa xb xc xd) (.mk yk yn ym ya yb yc yd)))) W := by
  simp only [Ac.same, Ac.k_, Ac.n_, Ac.m_, Ac.a_, Ac.b_, Ac.c_, Ac.d_, eqS]
  by_cases h0 : xk = yk
  · by_cases h1 : xn.toList = yn.toList
    · by_cases h2 : xm.toList = ym.toList
      · by_cases h3 : xa.toList = ya.toList
        · by_cases h4 : xb.toList = yb.toList
          · by_cases h5 : xc.toList = yc.toList
            · by_cases h6 : xd.toList = yd.toList
              · simp [go_sem, h0, h1, h2, h3, h4, h5, h6]
              · simp [go_sem, h0, h1, h2, h3, h4, h5, h6]
            · simp [go_sem, h0, h1, h2, h3, h4, h5]
          · simp [go_sem, h0, h1, h2, h3, h4]
        · simp [go_sem, h0, h1, h2, h3]
      · simp [go_sem, h0, h1, h2]
    · simp [go_sem, h0, h1]
  · simp [go_sem, h0]
/-- what is written is new -/
def RelF (n : Nat) (a b : World) : Prop := ∃ S : List Nat, (∀ x ∈ S, n ≤ x) ∧ Only S a b
theorem RelF.of {n : Nat} {a b : World} (o : Only [] a b) : RelF n a b := ⟨[], by simp, o⟩
theorem RelF.trans {n : Nat} {a b c : World} (h : RelF n a b) (k : RelF n b c) : RelF n a c := by
  obtain ⟨S, h1, h2⟩ := h
  obtain ⟨T, k1, k2⟩ := k
  refine ⟨S ++ T, fun x hx => ?_, (h2.mono (fun x hx => .inl (List.mem_append.2 (.inl hx)))).trans k2 (fun x hx => .inl (List.mem_append.2 (.inr hx)))⟩
  rcases List.mem_append.1 hx with h | h
  · exact h1 x h
  · exact k1 x h
theorem RelF.only {n : Nat} {a b : World} (h : RelF n a b) (hn : a.heap.size ≤ n) : Only [] a b := by
  obtain ⟨S, h1, h2⟩ := h
  exact (Only.refl [] a).trans h2 (fun x hx => .inr (Nat.le_trans hn (h1 x hx)))
/-- the ghost: the two blocks, as soon as they are laid -/
abbrev G2 := Option Nat × Option Nat
structure V23 (n : Nat) (Z : Array Value) (g : G2) (w : World) : Prop where
  one : ∀ b, g.1 = some b → n ≤ b ∧ ∃ c0 c1 c2 c3 c4 c5, Blk w b 77 #[c0, c1, c2, c3, c4, c5]
  two : ∀ b, g.2 = some b → n ≤ b ∧ Blk w b 77 Z
  ne : ∀ b c, g.1 = some b → g.2 = some c → b ≠ c
theorem V23.keep {n : Nat} {Z : Array Value} {g : G2} {w w' : World} (h : V23 n Z g w) (o : Only [] w w') : V23 n Z g w' :=
  ⟨fun b hb => by obtain ⟨h1, c0, c1, c2, c3, c4, c5, h2⟩ := h.one b hb; exact ⟨h1, c0, c1, c2, c3, c4, c5, o.blk h2 (by simp)⟩, fun b hb => ⟨(h.two b hb).1, o.blk (h.two b hb).2 (by simp)⟩, h.ne⟩
theorem V23.lay1 {n : Nat} {z0 z1 z2 z3 z4 z5 : Value} {g : G2} {w w' : World} (h : V23 n #[z0, z1, z2, z3, z4, z5] g w) (hn : n ≤ w.heap.size) (o : Only [] w w') (hb : Blk w' w.heap.size 77 #[z0, z1, z2, z3, z4, z5]) : V23 n #[z0, z1, z2, z3, z4, z5] (some w.heap.size, g.2) w' :=
  ⟨fun b hb' => by cases hb'; exact ⟨hn, _, _, _, _, _, _, hb⟩, (h.keep o).two, fun b c hb' hc => by cases hb'; have := (h.two c hc).2.lt; omega⟩
theorem V23.lay2 {n : Nat} {Z : Array Value} {g : G2} {w w' : World} (h : V23 n Z g w) (hn : n ≤ w.heap.size) (o : Only [] w w') (hb : Blk w' w.heap.size 77 Z) : V23 n Z (g.1, some w.heap.size) w' :=
  ⟨(h.keep o).one, fun b hb' => by cases hb'; exact ⟨hn, hb⟩, fun b c hb' hc => by cases hc; obtain ⟨_, _, _, _, _, _, _, h2⟩ := h.one b hb'; have := h2.lt; omega⟩
theorem V23.set {n : Nat} {Z : Array Value} {g : G2} {b0 : Nat} {c0 c1 c2 c3 c4 c5 : Value} {w w' : World} (h : V23 n Z g w) (hg : g.1 = some b0) (o : Only [b0] w w') (hb : Blk w' b0 77 #[c0, c1, c2, c3, c4, c5]) : V23 n Z g w' :=
  ⟨fun b hb' => by obtain rfl : b0 = b := (by rw [hg] at hb'; injection hb'); exact ⟨(h.one b0 hg).1, _, _, _, _, _, _, hb⟩, fun b hb' => ⟨(h.two b hb').1, o.blk (h.two b hb').2 (by have := h.ne _ _ hg hb'; simp; omega)⟩, h.ne⟩
def F23 (va vb vc vd ve vf vg vh vi vj : Value) (X : Array Value) (g : G2) (i : Nat) (v : Value) (w : World) : Prop :=
  match i with
  | 0 => v = va
  | 1 => v = vb
  | 2 => v = vc
  | 3 => v = vd
  | 4 => v = ve
  | 5 => v = vf
  | 6 => v = vg
  | 7 => v = vh
  | 8 => v = vi
  | 9 => v = vj
  | 10 => ∃ tb, g.1 = some tb ∧ v = .pointer (some ⟨tb, 0, none⟩)
  | 11 => ∃ tb, g.2 = some tb ∧ v = .pointer (some ⟨tb, 0, none⟩)
  | 12 => ∃ tb, g.1 = some tb ∧ Blk w tb 77 X
  | _ => True
theorem F23.lay1 {va vb vc vd ve vf vg vh vi vj : Value} {X : Array Value} {g : G2} {b i : Nat} {v : Value} {w w' : World} (hi : i ≠ 10) (hi' : i ≠ 12) (h : F23 va vb vc vd ve vf vg vh vi vj X g i v w) : F23 va vb vc vd ve vf vg vh vi vj X (some b, g.2) i v w' := by
  unfold F23 at h ⊢
  split at h <;> first | exact absurd rfl hi | exact absurd rfl hi' | exact h
theorem F23.lay2 {va vb vc vd ve vf vg vh vi vj : Value} {X : Array Value} {g : G2} {b i : Nat} {v : Value} {w w' : World} (hi : i ≠ 11) (o : Only [] w w') (h : F23 va vb vc vd ve vf vg vh vi vj X g i v w) : F23 va vb vc vd ve vf vg vh vi vj X (g.1, some b) i v w' := by
  unfold F23 at h ⊢
  split at h <;> first | exact absurd rfl hi | exact h | (obtain ⟨tb, h1, h2⟩ := h; exact ⟨tb, h1, o.blk h2 (by simp)⟩)
theorem F23.set {va vb vc vd ve vf vg vh vi vj : Value} {X : Array Value} {g : G2} {i : Nat} {v : Value} {w w' : World} (hi : i ≠ 12) (h : F23 va vb vc vd ve vf vg vh vi vj X g i v w) : F23 va vb vc vd ve vf vg vh vi vj X g i v w' := by
  unfold F23 at h ⊢
  split at h <;> first | exact absurd rfl hi | exact h
end Go.Proofs.YtfnacnlaphpflaaDoor
