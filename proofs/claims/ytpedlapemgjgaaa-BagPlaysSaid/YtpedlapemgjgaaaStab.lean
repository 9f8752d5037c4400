/- Sorted lists; lists that are alike but for the order of what isn't level: plain law. -/
import Derived.WalkKit
namespace Go.Bag

section
variable {α : Type} (key : α → Int)
def Sorted (L : List α) : Prop := L.Pairwise fun x y => key x ≤ key y
/-- of each key the same, in the same order -/
def Eqv (L M : List α) : Prop := ∀ k : Int, L.filter (fun x => key x == k) = M.filter (fun x => key x == k)
variable {key}
theorem Eqv.refl (L : List α) : Eqv key L L := fun _ => rfl
theorem Eqv.symm {L M : List α} (h : Eqv key L M) : Eqv key M L := fun k => (h k).symm
theorem Eqv.trans {L M N : List α} (h : Eqv key L M) (h2 : Eqv key M N) : Eqv key L N := fun k => (h k).trans (h2 k)
theorem Eqv.app {A B C D : List α} (h : Eqv key A C) (h2 : Eqv key B D) : Eqv key (A ++ B) (C ++ D) := fun k => by rw [List.filter_append, List.filter_append, h k, h2 k]
theorem Eqv.comm {A B : List α} (h : ∀ x ∈ A, ∀ y ∈ B, key x ≠ key y) : Eqv key (A ++ B) (B ++ A) := fun k => by
  rw [List.filter_append, List.filter_append]
  by_cases hA : ∃ x ∈ A, key x = k
  · obtain ⟨x, hx, rfl⟩ := hA
    have e : B.filter (fun y => key y == key x) = [] := by
      rw [List.filter_eq_nil_iff]
      intro y hy
      have := h x hx y hy
      simpa using Ne.symm this
    rw [e, List.append_nil, List.nil_append]
  · have e : A.filter (fun y => key y == k) = [] := by
      rw [List.filter_eq_nil_iff]
      intro y hy
      simpa using fun h2 => hA ⟨y, hy, h2⟩
    rw [e, List.append_nil, List.nil_append]
theorem Eqv.mem {L M : List α} (h : Eqv key L M) {x : α} : x ∈ L ↔ x ∈ M := by
  have h1 := h (key x)
  have e : ∀ N : List α, x ∈ N ↔ x ∈ N.filter (fun y => key y == key x) := fun N => by simp
  rw [e L, e M, h1]
theorem Eqv.count [DecidableEq α] {L M : List α} (h : Eqv key L M) (x : α) : L.count x = M.count x := by
  have e : ∀ N : List α, (N.filter (fun y => key y == key x)).count x = N.count x := fun N => List.count_filter (by simp)
  rw [← e L, ← e M, h (key x)]
theorem Eqv.perm [DecidableEq α] {L M : List α} (h : Eqv key L M) : L.Perm M := List.perm_iff_count.2 h.count
theorem Eqv.len [DecidableEq α] {L M : List α} (h : Eqv key L M) : L.length = M.length := h.perm.length_eq
theorem Eqv.tail {x : α} {L M : List α} (h : Eqv key (x :: L) (x :: M)) : Eqv key L M := fun k => by
  have h1 := h k
  rw [List.filter_cons, List.filter_cons] at h1
  split at h1
  · injection h1
  · exact h1
/-- sorted lists that are alike are the same -/
theorem uniq : ∀ {L M : List α}, Sorted key L → Sorted key M → Eqv key L M → L = M
  | [], M, _, _, h => by
    cases M with
    | nil => rfl
    | cons y M => have := h.mem (x := y); simp at this
  | x :: L, [], _, _, h => by have := h.mem (x := x); simp at this
  | x :: L, y :: M, h1, h2, h => by
    have hx : key y ≤ key x := by
      have := h.mem.1 (show x ∈ x :: L by simp)
      rcases List.mem_cons.1 this with rfl | h3
      · exact Int.le_refl _
      · exact (List.pairwise_cons.1 h2).1 x h3
    have hy : key x ≤ key y := by
      have := h.mem.2 (show y ∈ y :: M by simp)
      rcases List.mem_cons.1 this with rfl | h3
      · exact Int.le_refl _
      · exact (List.pairwise_cons.1 h1).1 y h3
    have hk := h (key x)
    rw [List.filter_cons, List.filter_cons, if_pos (by simp), if_pos (by simp; omega)] at hk
    injection hk with hk _
    subst hk
    rw [uniq (List.pairwise_cons.1 h1).2 (List.pairwise_cons.1 h2).2 h.tail]
theorem Sorted.app {A B : List α} (h1 : Sorted key A) (h2 : Sorted key B) (h : ∀ x ∈ A, ∀ y ∈ B, key x ≤ key y) : Sorted key (A ++ B) := List.pairwise_append.2 ⟨h1, h2, h⟩
theorem Sorted.left {A B : List α} (h : Sorted key (A ++ B)) : Sorted key A := (List.pairwise_append.1 h).1
theorem Sorted.right {A B : List α} (h : Sorted key (A ++ B)) : Sorted key B := (List.pairwise_append.1 h).2.1
theorem Sorted.cross {A B : List α} (h : Sorted key (A ++ B)) : ∀ x ∈ A, ∀ y ∈ B, key x ≤ key y := (List.pairwise_append.1 h).2.2

/-! ### the stable sort -/
variable (key)
def ins (x : α) : List α → List α
  | [] => [x]
  | y :: r => if key x < key y then x :: y :: r else y :: ins x r
def st (L : List α) : List α := L.foldl (fun acc x => ins key x acc) []
variable {key}
theorem ins_mem (x : α) (L : List α) (y : α) : y ∈ ins key x L ↔ y = x ∨ y ∈ L := by
  induction L with
  | nil => simp [ins]
  | cons z r ih =>
    unfold ins
    split
    · simp
    · simp [ih]
      constructor
      · rintro (h | h | h) <;> simp [h]
      · rintro (h | h | h) <;> simp [h]
theorem ins_sorted {x : α} {L : List α} (h : Sorted key L) : Sorted key (ins key x L) := by
  induction L with
  | nil => simp [ins, Sorted]
  | cons z r ih =>
    obtain ⟨h1, h2⟩ := List.pairwise_cons.1 h
    unfold ins
    split
    · rename_i hlt
      refine List.pairwise_cons.2 ⟨fun y hy => ?_, h⟩
      rcases List.mem_cons.1 hy with rfl | hy
      · omega
      · have := h1 y hy; omega
    · rename_i hlt
      refine List.pairwise_cons.2 ⟨fun y hy => ?_, ih h2⟩
      rcases (ins_mem x r y).1 hy with rfl | hy
      · omega
      · exact h1 y hy
theorem ins_eqv {x : α} {L : List α} (h : Sorted key L) : Eqv key (ins key x L) (L ++ [x]) := by
  induction L with
  | nil => exact Eqv.refl _
  | cons z r ih =>
    obtain ⟨h1, h2⟩ := List.pairwise_cons.1 h
    unfold ins
    split
    · rename_i hlt
      have : Eqv key ([x] ++ (z :: r)) ((z :: r) ++ [x]) := Eqv.comm (fun a ha b hb => by
        simp at ha
        subst ha
        rcases List.mem_cons.1 hb with rfl | hb
        · omega
        · have := h1 b hb; omega)
      exact this
    · exact Eqv.app (Eqv.refl [z]) (ih h2)
theorem foldl_ins (M : List α) : ∀ L : List α, Sorted key L → Sorted key (M.foldl (fun acc x => ins key x acc) L) ∧ Eqv key (M.foldl (fun acc x => ins key x acc) L) (L ++ M) := by
  induction M with
  | nil => intro L h; exact ⟨h, by rw [List.append_nil]; exact Eqv.refl _⟩
  | cons x M ih =>
    intro L h
    obtain ⟨i1, i2⟩ := ih (ins key x L) (ins_sorted h)
    refine ⟨i1, i2.trans ?_⟩
    have := (ins_eqv (x := x) h).app (Eqv.refl M)
    rwa [List.append_assoc] at this
theorem st_sorted (L : List α) : Sorted key (st key L) := (foldl_ins L [] List.Pairwise.nil).1
theorem st_eqv (L : List α) : Eqv key (st key L) L := (foldl_ins L [] List.Pairwise.nil).2
theorem st_uniq {L M : List α} (h1 : Sorted key M) (h2 : Eqv key M L) : M = st key L := uniq h1 (st_sorted L) (h2.trans (st_eqv L).symm)
theorem st_congr {L M : List α} (h : Eqv key L M) : st key L = st key M := st_uniq (st_sorted L) ((st_eqv L).trans h)
theorem st_app {L M : List α} : st key (st key L ++ M) = st key (L ++ M) := st_congr ((st_eqv L).app (Eqv.refl M))
theorem st_app2 {L M : List α} : st key (L ++ st key M) = st key (L ++ M) := st_congr ((Eqv.refl L).app (st_eqv M))
theorem st_ins {L : List α} {x : α} (h : Sorted key L) : ins key x L = st key (L ++ [x]) := st_uniq (ins_sorted h) (ins_eqv h)
theorem st_self {L : List α} (h : Sorted key L) : st key L = L := (st_uniq h (Eqv.refl L)).symm
theorem st_len [DecidableEq α] (L : List α) : (st key L).length = L.length := (st_eqv L).len
end

/-! ### a segment of a list -/
section
variable {α : Type} (key : α → Int)
def seg (D : List α) (a b : Nat) : List α := (D.drop a).take (b - a)
/-- what is done to D within a and b -/
structure Rep (D : List α) (a b : Nat) (D' : List α) : Prop where
  len : D'.length = D.length
  low : D'.take a = D.take a
  high : D'.drop b = D.drop b
  eqv : Eqv key (seg D' a b) (seg D a b)
variable {key}
theorem seg_len {D : List α} {a b : Nat} (h : b ≤ D.length) : (seg D a b).length = b - a := by unfold seg; simp; omega
theorem seg_at {D : List α} {a b i : Nat} (h : a + i < b) : (seg D a b)[i]? = D[a + i]? := by
  unfold seg
  rw [List.getElem?_take_of_lt (by omega), List.getElem?_drop]
theorem seg_app {D : List α} {a m b : Nat} (h1 : a ≤ m) (h2 : m ≤ b) : seg D a b = seg D a m ++ seg D m b := by
  unfold seg
  have e1 : b - a = (m - a) + (b - m) := by omega
  have e2 : D.drop m = (D.drop a).drop (m - a) := by rw [List.drop_drop]; congr 1; omega
  rw [e1, List.take_add, e2]
theorem seg_of_low {D D' : List α} {a b c : Nat} (h : D'.take a = D.take a) (hc : c ≤ a) : seg D' b c = seg D b c := by
  unfold seg
  have e : ∀ E : List α, (E.drop b).take (c - b) = ((E.take a).drop b).take (c - b) := fun E => by
    rw [List.drop_take, List.take_take]
    congr 1
    omega
  rw [e D', e D, h]
theorem seg_of_high {D D' : List α} {a b c : Nat} (h : D'.drop a = D.drop a) (hb : a ≤ b) : seg D' b c = seg D b c := by
  unfold seg
  have e : ∀ E : List α, E.drop b = (E.drop a).drop (b - a) := fun E => by rw [List.drop_drop]; congr 1; omega
  rw [e D', e D, h]
theorem Rep.refl (D : List α) (a b : Nat) : Rep key D a b D := ⟨rfl, rfl, rfl, Eqv.refl _⟩
theorem Rep.trans {D E F : List α} {a b : Nat} (h : Rep key D a b E) (k : Rep key E a b F) : Rep key D a b F := ⟨k.len.trans h.len, k.low.trans h.low, k.high.trans h.high, k.eqv.trans h.eqv⟩
theorem take_of_take {D E : List α} {a a' : Nat} (h : E.take a = D.take a) (ha : a' ≤ a) : E.take a' = D.take a' := by
  have e : ∀ F : List α, F.take a' = (F.take a).take a' := fun F => by rw [List.take_take, Nat.min_eq_left ha]
  rw [e E, e D, h]
theorem drop_of_drop {D E : List α} {b b' : Nat} (h : E.drop b = D.drop b) (hb : b ≤ b') : E.drop b' = D.drop b' := by
  have e : ∀ F : List α, F.drop b' = (F.drop b).drop (b' - b) := fun F => by rw [List.drop_drop]; congr 1; omega
  rw [e E, e D, h]
theorem Rep.widen {D E : List α} {a b a' b' : Nat} (h : Rep key D a b E) (ha : a' ≤ a) (hab : a ≤ b) (hb : b ≤ b') : Rep key D a' b' E := by
  refine ⟨h.len, take_of_take h.low ha, drop_of_drop h.high hb, ?_⟩
  rw [seg_app (D := E) ha (by omega), seg_app (D := D) ha (by omega), seg_app (D := E) hab hb, seg_app (D := D) hab hb]
  rw [seg_of_low h.low (Nat.le_refl _), seg_of_high h.high (Nat.le_refl _)]
  exact (Eqv.refl _).app (h.eqv.app (Eqv.refl _))
theorem Rep.out_low {D E : List α} {a b c d : Nat} (h : Rep key D a b E) (hd : d ≤ a) : seg E c d = seg D c d := seg_of_low h.low hd
theorem Rep.out_high {D E : List α} {a b c d : Nat} (h : Rep key D a b E) (hc : b ≤ c) : seg E c d = seg D c d := seg_of_high h.high hc
theorem seg_all {D : List α} : seg D 0 D.length = D := by unfold seg; simp
end
end Go.Bag
