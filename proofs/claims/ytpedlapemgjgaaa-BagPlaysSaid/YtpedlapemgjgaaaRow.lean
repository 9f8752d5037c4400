/- Rows that are read; append of a row; Clone. -/
import Derived.Test.YtpedlapemgjgaaaMem
namespace Go.Proofs.Ytpedlapemgjgaaa
open Go.RowKit Go.Kx Go.Bag
set_option maxRecDepth 100000
/-- a row of cells that holds these -/
def RowC (w : World) (A : Option Addr) (xs : List Value) : Prop :=
  ∀ j u, xs[j]? = some u → ∃ b o, A = some ⟨b, o, none⟩ ∧ b < w.heap.size ∧ w.cell? ⟨b, o + j, none⟩ = some u
theorem RowC.only {w w' : World} {A : Option Addr} {M : List Value} (h : RowC w A M) (ho : Only [] w w') : RowC w' A M := fun j u hu => by
  obtain ⟨b, o, hA, hb, hc⟩ := h j u hu
  have := ho.size
  exact ⟨b, o, hA, by omega, (ho.cell (p := ⟨b, _, none⟩) hb (by simp)).trans hc⟩
theorem RowC.besides {S : List Nat} {w w' : World} {A : Option Addr} {M : List Value} (h : RowC w A M) (ho : Only S w w') (hn : ∀ p, A = some p → p.block ∉ S) : RowC w' A M := fun j u hu => by
  obtain ⟨b, o, hA, hb, hc⟩ := h j u hu
  have := ho.size
  exact ⟨b, o, hA, by omega, (ho.cell (p := ⟨b, o + j, none⟩) hb (show b ∉ S from hn _ hA)).trans hc⟩
theorem RowC.nil (w : World) (A : Option Addr) : RowC w A [] := fun j u h => by simp at h
theorem RowC.drop {w : World} {b o : Nat} {xs : List Value} (h : RowC w (some ⟨b, o, none⟩) xs) (i : Nat) : RowC w (some ⟨b, o + i, none⟩) (xs.drop i) := fun j u hu => by
  rw [List.getElem?_drop] at hu
  obtain ⟨b', o', hA, hb, hc⟩ := h _ _ hu
  cases hA
  exact ⟨b, o + i, rfl, hb, by rw [Nat.add_assoc]; exact hc⟩
theorem RowC.take {w : World} {A : Option Addr} {xs : List Value} (h : RowC w A xs) (i : Nat) : RowC w A (xs.take i) := fun j u hu => by
  have hj : j < i := by
    have := (List.getElem?_eq_some_iff.1 hu).1
    simp at this
    omega
  rw [List.getElem?_take_of_lt hj] at hu
  exact h j u hu
theorem own_rowC {W : World} {base n cap size : Nat} {A : Option Addr} {t : TypeId} {xs : List Value} (hn : xs.length = n * size) (h : W.ownsRow base t size (.slice A n cap) n xs) : RowC W A xs := by
  intro j u hu
  have hj : j < xs.length := (List.getElem?_eq_some_iff.1 hu).1
  rcases h.2 with ⟨h1, h2⟩ | ⟨g, cap', cur, h1, hb, hg, _, _, _, hcur⟩
  · rw [hn, h2] at hj
    omega
  · injection h1 with hA _ _
    refine ⟨g, 0, hA, (Array.getElem?_eq_some_iff.1 hg).1, ?_⟩
    rw [Nat.zero_add, cell_of_row W g j cur t (0, 0) hg]
    rw [← hcur, List.getElem?_take_of_lt (by omega)] at hu
    simpa using hu
theorem own_form {W : World} {base n c size : Nat} {A : Option Addr} {t : TypeId} {xs : List Value} (h : W.ownsRow base t size (.slice A n c) n xs) : (A = none ∧ n = 0 ∧ c = 0) ∨ (∃ b, A = some ⟨b, 0, none⟩) ∧ n ≤ c := by
  rcases h.2 with ⟨h1, h2⟩ | ⟨g, cap', cur, h1, _, _, h2, _⟩
  · injection h1 with hA _ hc
    exact .inl ⟨hA, h2, hc⟩
  · injection h1 with hA _ hc
    exact .inr ⟨⟨g, hA⟩, by omega⟩
theorem own_slice {W : World} {base n size : Nat} {v : Value} {t : TypeId} {xs : List Value} (h : W.ownsRow base t size v n xs) : ∃ A c, v = .slice A n c := by
  rcases h.2 with ⟨rfl, rfl⟩ | ⟨g, cap, cur, rfl, _⟩
  · exact ⟨none, 0, rfl⟩
  · exact ⟨_, _, rfl⟩
theorem run_append_rowC {P : Program} {t e : TypeId} (ty : TypeId) {z : Value} {bytes size : Nat} (hs0 : 0 < size) (ht : P.underlying t = some (.slice e)) (hi : (P.info? e).map (fun i => (i.zero, i.size, i.bytes)) = some (some z, size, bytes)) (hz : z.cells.size = size)
    {w : World} {base : Nat} {v : Value} {n : Nat} {L1 L2 : List Value} (hown : w.ownsRow base e size v n L1) {A : Option Addr} {c m : Nat} (h2 : RowC w A L2) (hone : ∀ u ∈ L2, u.oneCell' = true) (hm : L2.length = m * size) (hbase : base ≤ w.heap.size) (h63 : n + m ≤ maxLen) (hb : (n + m) * bytes ≤ 140737488355328) :
    ∃ A' c' w1, (Builtin.append_ #[t, t] ty #[v, .slice A m c]).run P w = .ok (.slice A' (n + m) c') w1 ∧ w1.ownsRow base e size (.slice A' (n + m) c') (n + m) (L1 ++ L2) ∧ Only v.ownBlock.toList w w1 ∧ (∀ p, A' = some p → v.ownBlock = some p.block ∨ w.heap.size ≤ p.block) := by
  obtain ⟨i, hi, h0, hsz, h2'⟩ := info_parts hi
  cases A with
  | none =>
    have hL : L2 = [] := by
      cases L2 with
      | nil => rfl
      | cons e r => obtain ⟨b, o, h, _⟩ := h2 0 e rfl; cases h
    subst hL
    have hm0 : m = 0 := by
      rcases Nat.eq_zero_or_pos m with h | h
      · exact h
      · have : 0 < m * size := Nat.mul_pos h hs0
        simp at hm
        omega
    subst hm0
    obtain ⟨A', c', rfl⟩ := own_slice hown
    refine ⟨A', c', w, ?_, by simpa using hown, Only.refl _ _, fun p h => .inl (by rw [h]; rfl)⟩
    rcases hown.2 with ⟨h1, rfl⟩ | ⟨g, cap, cur, h1, _, _, hnc, _⟩
    · rw [h1]
      simp [Builtin.append_, run_underlying ht, sizeOf, typeInfo, hi, Builtin.lenOf, Builtin.firstCells]
    · injection h1 with h1 _ hcc
      subst h1
      subst hcc
      simp [Builtin.append_, run_underlying ht, sizeOf, typeInfo, hi, Builtin.lenOf, Builtin.firstCells, hnc, storeCells]
  | some ad =>
    obtain ⟨v', w1, hrun, ho, hg, _, hat⟩ := run_append_own_at (P := P) w base t ty e i z size bytes ht hi h0 hsz h2' hz hs0 v n L1 hown ad m c L2 hm
      (fun j u hj => by obtain ⟨b, o, h, _, hc⟩ := h2 j u hj; cases h; rw [Addr.add_lit]; exact hc) hone h63 hb hbase
    obtain ⟨A', c', rfl⟩ := own_slice ho
    refine ⟨A', c', w1, hrun, ho, Only.of_grownBy hg, fun p h => ?_⟩
    subst h
    rcases hat with h | h
    · left; rw [← h]; rfl
    · right; simp [Value.ownBlock] at h; omega
theorem len_flat1 (L : List Int) : (flat1 L).length = L.length * 1 := by first | exact flat2_length L | rw [Nat.mul_one]; exact flat1_length L
set_option maxHeartbeats 1000000 in
/-- slices.Clone -/
theorem cloneI {w : World} {A : Option Addr} {n c : Nat} {M : List Int} (hM : RowC w A (flat1 M)) (hn : M.length = n) (h20 : n ≤ 1048576) :
    Calls Try.prog 44 #[.slice A n c] w fun e w' => ∃ A' c', e = .returned (.slice A' n c') ∧ w'.ownsRow w.heap.size 3 1 (.slice A' n c') n (flat1 M) ∧ Only [] w w' := by
  cases A with
  | none =>
    have hm : M = [] := by
      cases M with
      | nil => rfl
      | cons e r => obtain ⟨b, o, h, _⟩ := hM 0 _ rfl; cases h
    subst hm
    simp at hn
    subst hn
    clear hM h20
    have hE : ∀ W, (binOp .eql 22 (.slice none 0 c) (.slice none 0 0)).run Try.prog W = .ok (.bool true) W := fun W => Lib.run_eql_slice_nil W 22 3 none 0 c 0 0 Try.underlying22
    go_enter Try.func44, Try.ntmps44
    go_wp2_with (fail)
    go_ret
    exact ⟨none, 0, rfl, World.ownsRow_nil _ _ _ _, Only.refl _ _⟩
  | some p =>
    have hown0 : (w.alloc (.cells #[] 3)).ownsRow w.heap.size 3 1 (.slice (some ⟨w.heap.size, 0, none⟩) 0 0) 0 [] :=
      ⟨rfl, .inr ⟨w.heap.size, 0, #[], rfl, Nat.le_refl _, Blk.new _ _ _, Nat.le_refl _, by simp [maxLen], rfl, rfl⟩⟩
    obtain ⟨A', c', w1, hr, ho, hg, -⟩ := run_append_rowC (P := Try.prog) (t := 22) (e := 3) (c := c) (m := n) 22 (by omega) Try.underlying22 int_info rfl hown0 (hM.only ((Only.refl [] w).alloc _)) (flat1_one M) (by rw [len_flat1, hn]) (by simp) (by unfold maxLen; omega) (by omega)
    rw [Nat.zero_add] at hr ho
    rw [List.nil_append] at ho
    have hO : Only [] w w1 := ((Only.refl [] w).alloc _).trans hg (fun x hx => .inr (by simp [Value.ownBlock] at hx; omega))
    have HO := Lib.hid ho
    have HOO := Lib.hid hO
    have hE : ∀ W, (binOp .eql 22 (.slice (some p) n c) (.slice none 0 0)).run Try.prog W = .ok (.bool false) W := fun W => Lib.run_eql_slice_nil W 22 3 (some p) n c 0 0 Try.underlying22
    clear ho hO hg hown0 hM
    go_enter Try.func44, Try.ntmps44
    go_wp2_with (at_builtin; refine wpList_append_run hr rfl _ _ rfl rfl rfl rfl ?_)
    go_ret
    exact ⟨A', c', rfl, HO.out, HOO.out⟩
theorem len_flat2 (L : List Ent) : (flat2 L).length = L.length * 2 := by first | exact flat2_length L | rw [Nat.mul_one]; exact flat1_length L
set_option maxHeartbeats 1000000 in
/-- slices.Clone -/
theorem cloneJ {w : World} {A : Option Addr} {n c : Nat} {M : List Ent} (hM : RowC w A (flat2 M)) (hn : M.length = n) (h20 : n ≤ 1048576) :
    Calls Try.prog 40 #[.slice A n c] w fun e w' => ∃ A' c', e = .returned (.slice A' n c') ∧ w'.ownsRow w.heap.size 49 2 (.slice A' n c') n (flat2 M) ∧ Only [] w w' := by
  cases A with
  | none =>
    have hm : M = [] := by
      cases M with
      | nil => rfl
      | cons e r => obtain ⟨b, o, h, _⟩ := hM 0 _ rfl; cases h
    subst hm
    simp at hn
    subst hn
    clear hM h20
    have hE : ∀ W, (binOp .eql 51 (.slice none 0 c) (.slice none 0 0)).run Try.prog W = .ok (.bool true) W := fun W => Lib.run_eql_slice_nil W 51 49 none 0 c 0 0 Try.underlying51
    go_enter Try.func40, Try.ntmps40
    go_wp2_with (fail)
    go_ret
    exact ⟨none, 0, rfl, World.ownsRow_nil _ _ _ _, Only.refl _ _⟩
  | some p =>
    have hown0 : (w.alloc (.cells #[] 49)).ownsRow w.heap.size 49 2 (.slice (some ⟨w.heap.size, 0, none⟩) 0 0) 0 [] :=
      ⟨rfl, .inr ⟨w.heap.size, 0, #[], rfl, Nat.le_refl _, Blk.new _ _ _, Nat.le_refl _, by simp [maxLen], rfl, rfl⟩⟩
    obtain ⟨A', c', w1, hr, ho, hg, -⟩ := run_append_rowC (P := Try.prog) (t := 51) (e := 49) (c := c) (m := n) 51 (by omega) Try.underlying51 item_info rfl hown0 (hM.only ((Only.refl [] w).alloc _)) (flat2_one M) (by rw [len_flat2, hn]) (by simp) (by unfold maxLen; omega) (by omega)
    rw [Nat.zero_add] at hr ho
    rw [List.nil_append] at ho
    have hO : Only [] w w1 := ((Only.refl [] w).alloc _).trans hg (fun x hx => .inr (by simp [Value.ownBlock] at hx; omega))
    have HO := Lib.hid ho
    have HOO := Lib.hid hO
    have hE : ∀ W, (binOp .eql 51 (.slice (some p) n c) (.slice none 0 0)).run Try.prog W = .ok (.bool false) W := fun W => Lib.run_eql_slice_nil W 51 49 (some p) n c 0 0 Try.underlying51
    clear ho hO hg hown0 hM
    go_enter Try.func40, Try.ntmps40
    go_wp2_with (at_builtin; refine wpList_append_run hr rfl _ _ rfl rfl rfl rfl ?_)
    go_ret
    exact ⟨A', c', rfl, HO.out, HOO.out⟩
end Go.Proofs.Ytpedlapemgjgaaa
