/- Rows of eight by eight numbers, and their sums. -/
import Derived.Test.YtlhmhpopppfpkaaPlays
namespace Go.Proofs.Ytlhmhpopppfpkaa
open Go.RowKit Go.Kx Go.Maps
set_option maxRecDepth 100000

def Grid (w : World) (b : Nat) (S : Nat → Nat → Nat) : Prop := ∃ cs, Blk w b 29 cs ∧ cs.size = 64 ∧ ∀ x y, x < 8 → y < 8 → cs[x * 8 + y]? = some (.int .i64 (S x y))
theorem Grid.lt {w : World} {b : Nat} {S : Nat → Nat → Nat} (h : Grid w b S) : b < w.heap.size := by
  obtain ⟨cs, hb, _⟩ := h
  exact hb.lt
theorem Grid.only {L : List Nat} {w w' : World} {b : Nat} {S : Nat → Nat → Nat} (h : Grid w b S) (o : Only L w w') (hb : b ∉ L) : Grid w' b S := by
  obtain ⟨cs, h1, h2⟩ := h
  exact ⟨cs, o.blk h1 hb, h2⟩
theorem Grid.at_ {w : World} {b : Nat} {S : Nat → Nat → Nat} (h : Grid w b S) {x y : Nat} (hx : x < 8) (hy : y < 8) : w.cell? ⟨b, x * 8 + y, none⟩ = some (.int .i64 (S x y)) ∧ w.frozen? ⟨b, x * 8 + y, none⟩ = false := by
  obtain ⟨cs, h1, h2, h3⟩ := h
  exact ⟨(h1.cell _).trans (h3 x y hx hy), h1.frozen _⟩
def bump (S : Nat → Nat → Nat) (a b : Nat) : Nat → Nat → Nat := fun x y => if x = a ∧ y = b then S x y + 1 else S x y
theorem bump_at (S : Nat → Nat → Nat) (a b : Nat) : bump S a b a b = S a b + 1 := if_pos ⟨rfl, rfl⟩
theorem bump_off (S : Nat → Nat → Nat) {a b x y : Nat} (h : ¬ (x = a ∧ y = b)) : bump S a b x y = S x y := if_neg h
theorem Grid.bump {w : World} {g : Nat} {S : Nat → Nat → Nat} (h : Grid w g S) {a b : Nat} (ha : a < 8) (hb : b < 8) {v : Value} (hv : v = .int .i64 ((S a b : Int) + 1)) : Grid (w.setCell ⟨g, a * 8 + b, none⟩ v) g (bump S a b) := by
  obtain ⟨cs, h1, h2, h3⟩ := h
  refine ⟨_, h1.set_ (a * 8 + b) v, by simpa using h2, fun x y hx hy => ?_⟩
  by_cases e : x = a ∧ y = b
  · obtain ⟨rfl, rfl⟩ := e
    rw [Array.getElem?_setIfInBounds_self_of_lt (by omega), bump_at, hv]
    simp
  · rw [Array.getElem?_setIfInBounds_ne (by omega), bump_off S e]
    exact h3 x y hx hy
def sumN : Nat → (Nat → Nat) → Nat
  | 0, _ => 0
  | n + 1, f => sumN n f + f n
theorem sumN_congr {f g : Nat → Nat} : ∀ {n}, (∀ x, x < n → f x = g x) → sumN n f = sumN n g
  | 0, _ => rfl
  | n + 1, h => by
    show sumN n f + f n = sumN n g + g n
    rw [sumN_congr (fun x hx => h x (by omega)), h n (by omega)]
theorem sumN_bump {f g : Nat → Nat} {a : Nat} (h1 : g a = f a + 1) (h2 : ∀ x, x ≠ a → g x = f x) : ∀ {n}, a < n → sumN n g = sumN n f + 1
  | n + 1, ha => by
    show sumN n g + g n = sumN n f + f n + 1
    by_cases e : n = a
    · subst e
      rw [sumN_congr (fun x hx => h2 x (by omega)), h1]
      omega
    · rw [sumN_bump h1 h2 (n := n) (by omega), h2 n e]
      omega
def dbl (k : Nat) (D : Nat → Nat → Nat) : Nat := sumN k fun x => sumN k fun y => D x y
theorem dbl_bump {D E : Nat → Nat → Nat} {k a b : Nat} (ha : a < k) (hb : b < k) (h1 : E a b = D a b + 1) (h2 : ∀ x y, ¬ (x = a ∧ y = b) → E x y = D x y) : dbl k E = dbl k D + 1 := by
  unfold dbl
  refine sumN_bump ?_ (fun x hx => ?_) ha
  · exact sumN_bump h1 (fun y hy => h2 a y (fun e => hy e.2)) hb
  · exact sumN_congr (fun y _ => h2 x y (fun e => hx e.1))
theorem sumN_le {f : Nat → Nat} : ∀ {n m : Nat}, n ≤ m → sumN n f ≤ sumN m f
  | n, m, h => by
    induction m with
    | zero => have : n = 0 := by omega
              subst this; exact Nat.le_refl _
    | succ m ih =>
      by_cases e : n = m + 1
      · subst e; exact Nat.le_refl _
      · exact Nat.le_trans (ih (by omega)) (Nat.le_add_right _ _)
theorem sumN_zero : ∀ n, sumN n (fun _ => 0) = 0
  | 0 => rfl
  | n + 1 => sumN_zero n
/-- numbers in order -/
def upI (a n : Nat) : List Int := (List.range' a n).map Int.ofNat
theorem upI_zero (a : Nat) : upI a 0 = [] := rfl
theorem upI_succ (a n : Nat) : upI a (n + 1) = (a : Int) :: upI (a + 1) n := rfl
theorem upI_snoc (a n : Nat) : upI a n ++ [((a + n : Nat) : Int)] = upI a (n + 1) := by
  unfold upI
  rw [List.range'_concat, List.map_append]
  simp
/-- the links hold what was sent and not taken -/
structure OR (k : Nat) (Ls : List (Pr × Lane)) (S G : Nat → Nat → Nat) : Prop where
  at_ : ∀ x y : Nat, x < 8 → y < 8 → laneX Ls ((x : Int), (y : Int)) = upI (G x y) (S x y - G x y)
  le : ∀ x y, G x y ≤ S x y
  diag : ∀ x, S x x = 0
  tot : total Ls = dbl k fun x y => S x y - G x y
theorem OR.nil (k : Nat) : OR k [] (fun _ _ => 0) (fun _ _ => 0) := by
  refine ⟨fun x y _ _ => rfl, fun _ _ => Nat.le_refl _, fun _ => rfl, ?_⟩
  unfold dbl
  simp only [Nat.sub_self]
  rw [sumN_congr (g := fun _ => 0) (fun x _ => sumN_zero k), sumN_zero]
  rfl
theorem OR.sent {k : Nat} {Ls Ls' : List (Pr × Lane)} {S G : Nat → Nat → Nat} (h : OR k Ls S G) {a b : Nat} (ha : a < k) (hb : b < k) (hab : a ≠ b) (s : Sent Ls Ls' ((a : Int), (b : Int)) (S a b : Int)) : OR k Ls' (bump S a b) G := by
  have hle := h.le a b
  refine ⟨fun x y hx hy => ?_, fun x y => ?_, fun x => ?_, ?_⟩
  · rw [s.at_, h.at_ x y hx hy]
    by_cases e : x = a ∧ y = b
    · obtain ⟨rfl, rfl⟩ := e
      rw [if_pos rfl, bump_at]
      have e1 : S x y + 1 - G x y = (S x y - G x y) + 1 := by omega
      have e2 : ((S x y : Nat) : Int) = ((G x y + (S x y - G x y) : Nat) : Int) := by congr 1; omega
      rw [e1, ← upI_snoc, ← e2]
    · rw [if_neg (fun hh => e (by injection hh with h1 h2; omega)), bump_off S e]
  · by_cases e : x = a ∧ y = b
    · obtain ⟨rfl, rfl⟩ := e
      rw [bump_at]; omega
    · rw [bump_off S e]; exact h.le x y
  · rw [bump_off S (by omega)]; exact h.diag x
  · rw [s.tot, h.tot]
    refine (dbl_bump ha hb ?_ fun x y e => ?_).symm
    · rw [bump_at]; omega
    · rw [bump_off S e]
theorem OR.took {k : Nat} {Ls : List (Pr × Lane)} (hn : (Ls.map (·.1)).Nodup) {S G : Nat → Nat → Nat} (h : OR k Ls S G) {a b : Nat} (ha : a < k) (hb : b < k) (hk : k ≤ 8) (hlt : G a b < S a b) : laneX Ls ((a : Int), (b : Int)) = (G a b : Int) :: upI (G a b + 1) (S a b - G a b - 1) ∧ OR k (tailX Ls ((a : Int), (b : Int))) S (bump G a b) := by
  have hx : laneX Ls ((a : Int), (b : Int)) = (G a b : Int) :: upI (G a b + 1) (S a b - G a b - 1) := by
    rw [h.at_ a b (by omega) (by omega)]
    obtain ⟨d, hd⟩ : ∃ d, S a b - G a b = d + 1 := ⟨S a b - G a b - 1, by omega⟩
    rw [hd, upI_succ]
    rfl
  refine ⟨hx, fun x y hx8 hy8 => ?_, fun x y => ?_, h.diag, ?_⟩
  · rw [laneX_tail hn]
    by_cases e : x = a ∧ y = b
    · obtain ⟨rfl, rfl⟩ := e
      rw [if_pos rfl, hx, bump_at]
      have e1 : S x y - (G x y + 1) = S x y - G x y - 1 := by omega
      rw [e1]
      rfl
    · rw [if_neg (fun hh => e (by injection hh with h1 h2; omega)), bump_off G e]
      exact h.at_ x y hx8 hy8
  · by_cases e : x = a ∧ y = b
    · obtain ⟨rfl, rfl⟩ := e
      rw [bump_at]; omega
    · rw [bump_off G e]; exact h.le x y
  · have ht := total_tail hn ((a : Int), (b : Int))
    rw [hx, if_neg (by simp), h.tot] at ht
    have := dbl_bump (D := fun x y => S x y - bump G a b x y) (E := fun x y => S x y - G x y) ha hb (by simp only [bump_at]; omega) (fun x y e => by simp only [bump_off G e])
    omega
theorem OR.took_none {k : Nat} {Ls : List (Pr × Lane)} (hn : (Ls.map (·.1)).Nodup) {S G : Nat → Nat → Nat} (h : OR k Ls S G) {a b : Nat} (ha : a < 8) (hb : b < 8) (hlt : ¬ G a b < S a b) : laneX Ls ((a : Int), (b : Int)) = [] ∧ OR k (tailX Ls ((a : Int), (b : Int))) S G := by
  have hle := h.le a b
  have hx : laneX Ls ((a : Int), (b : Int)) = [] := by
    rw [h.at_ a b ha hb]
    have : S a b - G a b = 0 := by omega
    rw [this]
    rfl
  refine ⟨hx, fun x y hx8 hy8 => ?_, h.le, h.diag, ?_⟩
  · rw [laneX_tail hn]
    by_cases e : x = a ∧ y = b
    · obtain ⟨rfl, rfl⟩ := e
      rw [if_pos rfl, ← h.at_ x y hx8 hy8, hx]
      rfl
    · rw [if_neg (fun hh => e (by injection hh with h1 h2; omega))]
      exact h.at_ x y hx8 hy8
  · have ht := total_tail hn ((a : Int), (b : Int))
    rw [hx, if_pos rfl, h.tot] at ht
    omega
end Go.Proofs.Ytlhmhpopppfpkaa
