/- span: Cmp, Add, Sub at every two times. -/
import Derived.Test.YtcggeogpanackaaRed
import Derived.Test.YtcggeogpanackaaWalks2
namespace Go.Proofs.Ytcggeogpanackaa
open Go.RowKit Go.Kx
set_option maxRecDepth 20000

/-- a time -/
abbrev Tm := Int × Int
def Tm.ok (t : Tm) : Prop := I64 t.1 ∧ I64 t.2
def Tm.v (t : Tm) : Value := .agg #[.int .i64 t.1, .int .i64 t.2]
def Tm.right (t : Tm) : Bool := rightB t.1 t.2
/-- a time and an error -/
abbrev Te := Tm × Int

def fitT (n d : Nat) : Te := if mostI < n ∨ mostI < d then ((0, 0), 2) else ((n, d), 0)
def redT (N D : Nat) : Te := fitT (N / Nat.gcd N D) (D / Nat.gcd N D)
def cmpT (a b : Tm) : Int := if a.right = true ∧ b.right = true then (if a.1 * b.2 < b.1 * a.2 then -1 else if a.1 * b.2 = b.1 * a.2 then 0 else 1) else 0
def addT (a b : Tm) : Te :=
  if a.right = true ∧ b.right = true then (if a.2 = 0 ∨ b.2 = 0 then ((1, 0), 0) else redT (a.1.toNat * b.2.toNat + b.1.toNat * a.2.toNat) (a.2.toNat * b.2.toNat)) else ((0, 0), 1)
def subT (a b : Tm) : Te :=
  if a.right = true ∧ b.right = true then (if b.2 = 0 ∨ cmpT a b < 0 then ((0, 0), 4) else if a.2 = 0 then ((1, 0), 0) else redT (a.1.toNat * b.2.toNat - b.1.toNat * a.2.toNat) (a.2.toNat * b.2.toNat)) else ((0, 0), 1)

/-- the parts of a right time -/
theorem right_parts {t : Tm} (ho : t.ok) (h : t.right = true) (h0 : t.2 ≠ 0) : ∃ n d : Nat, t = ((n : Int), (d : Int)) ∧ n ≤ 9223372036854775807 ∧ d ≤ 9223372036854775807 ∧ 0 < d ∧ Nat.gcd n d = 1 := by
  obtain ⟨a, b⟩ := t
  unfold Tm.ok I64 at ho
  unfold Tm.right rightB at h
  simp only at *
  rw [if_neg h0] at h
  simp at h
  obtain ⟨n, rfl⟩ := Int.eq_ofNat_of_zero_le h.1.2
  obtain ⟨d, rfl⟩ := Int.eq_ofNat_of_zero_le (Int.le_of_lt h.1.1)
  simp at h
  exact ⟨n, d, rfl, by omega, by omega, by omega, h.2⟩
theorem right_end {t : Tm} (h : t.right = true) (h0 : t.2 = 0) : t = (1, 0) := by
  obtain ⟨a, b⟩ := t
  unfold Tm.right rightB at h
  simp only at *
  rw [if_pos h0] at h
  simp at h
  rw [h, h0]

theorem cmp_any (a b : Tm) (ha : a.ok) (hb : b.ok) (w : World) :
    Calls Try.prog 53 #[.agg #[.int .i64 a.1, .int .i64 a.2], .agg #[.int .i64 b.1, .int .i64 b.2]] w fun e w' => e = .returned (.int .i64 (cmpT a b)) ∧ Only [] w w' := by
  by_cases h : a.right = true ∧ b.right = true
  · unfold cmpT
    rw [if_pos h]
    obtain ⟨n1, n2⟩ := right_nonneg h.1
    obtain ⟨n3, n4⟩ := right_nonneg h.2
    obtain ⟨⟨a1, a2⟩, ⟨a3, a4⟩⟩ := ha
    obtain ⟨⟨b1, b2⟩, ⟨b3, b4⟩⟩ := hb
    obtain ⟨a, a'⟩ := a
    obtain ⟨b, b'⟩ := b
    simp only at *
    obtain ⟨a, rfl⟩ := Int.eq_ofNat_of_zero_le n1
    obtain ⟨a', rfl⟩ := Int.eq_ofNat_of_zero_le n2
    obtain ⟨b, rfl⟩ := Int.eq_ofNat_of_zero_le n3
    obtain ⟨b', rfl⟩ := Int.eq_ofNat_of_zero_le n4
    have c := cmp_right a a' b b' (by omega) (by omega) (by omega) (by omega) h.1 h.2 w
    have e : (if (a : Int) * b' < (b : Int) * a' then (-1 : Int) else if (a : Int) * b' = (b : Int) * a' then 0 else 1) = (if a * b' < b * a' then (-1 : Int) else if a * b' = b * a' then 0 else 1) := by
      have e1 : ((a : Int) * b' < (b : Int) * a') = (a * b' < b * a') := by apply propext; rw [← Int.natCast_mul, ← Int.natCast_mul]; omega
      have e2 : ((a : Int) * b' = (b : Int) * a') = (a * b' = b * a') := by apply propext; rw [← Int.natCast_mul, ← Int.natCast_mul]; omega
      simp only [e1, e2]
    rw [e]
    exact c
  · unfold cmpT
    rw [if_neg h]
    exact cmp_wrong a.1 a.2 b.1 b.2 ha.1 ha.2 hb.1 hb.2 h w

/-- three boxes of two cells -/
def Three (w : World) (n : Nat) (a b c d e f : Value) : Prop := Blk w n 24 #[a, b] ∧ Blk w (n + 1) 24 #[c, d] ∧ Blk w (n + 2) 24 #[e, f]
theorem Three.new (w : World) (a b c d e f : Value) : Three (((w.alloc (.cells #[a, b] 24)).alloc (.cells #[c, d] 24)).alloc (.cells #[e, f] 24)) w.heap.size a b c d e f := three_boxes w 24 #[a, b] #[c, d] #[e, f]
theorem Three.only {w w' : World} {n : Nat} {a b c d e f : Value} (h : Three w n a b c d e f) (ho : Only [] w w') : Three w' n a b c d e f := ⟨ho.blk h.1 (by simp), ho.blk h.2.1 (by simp), ho.blk h.2.2 (by simp)⟩
theorem Three.facts {w : World} {n : Nat} {a b c d e f : Value} (h : Three w n a b c d e f) :
    w.cell? ⟨n, 0, none⟩ = some a ∧ w.cell? ⟨n, 1, none⟩ = some b ∧ w.cell? ⟨n + 1, 0, none⟩ = some c ∧ w.cell? ⟨n + 1, 1, none⟩ = some d ∧ w.cell? ⟨n + 2, 0, none⟩ = some e ∧ w.cell? ⟨n + 2, 1, none⟩ = some f ∧
      w.frozen? ⟨n + 2, 0, none⟩ = false ∧ w.frozen? ⟨n + 2, 1, none⟩ = false := by
  obtain ⟨h1, h2, h3⟩ := h
  exact ⟨by simpa using h1.cell 0, by simpa using h1.cell 1, by simpa using h2.cell 0, by simpa using h2.cell 1, by simpa using h3.cell 0, by simpa using h3.cell 1, h3.frozen 0, h3.frozen 1⟩
theorem only3 (w : World) (a b c : Obj) : Only [] w (((w.alloc a).alloc b).alloc c) := (((Only.refl [] w).alloc _).alloc _).alloc _
theorem only_two {w w' : World} (h : Only [] w w') {p q : Addr} (hp : w.heap.size ≤ p.block) (hq : w.heap.size ≤ q.block) (u v : Value) : Only [] w ((w'.setCell p u).setCell q v) := (h.setCell (.inr hp) u).setCell (.inr hq) v

theorem i0 : I64 0 := by unfold I64; omega

end Go.Proofs.Ytcggeogpanackaa
