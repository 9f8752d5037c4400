/- span.Min: the least of times. -/
import Derived.Test.YtgfmahfdkiblbaaDoorOrdersA
namespace Go.Proofs.YtgfmahfdkiblbaaDoor
open Go.RowKit Go.Kx
set_option maxRecDepth 20000

/-- a slice that reads as these times -/
def Times (w : World) (A : Option Addr) (L : List Tm) : Prop :=
  ∀ i t, L[i]? = some t → t.ok ∧ ∃ b o, A = some ⟨b, o, none⟩ ∧ b < w.heap.size ∧ w.cell? ⟨b, o + i * 2, none⟩ = some (.int .i64 t.1) ∧ w.cell? ⟨b, o + i * 2 + 1, none⟩ = some (.int .i64 t.2)
theorem Times.only {w w' : World} {A : Option Addr} {L : List Tm} (h : Times w A L) (ho : Only [] w w') : Times w' A L := fun i t ht => by
  obtain ⟨hk, b, o, hA, hb, h0, h1⟩ := h i t ht
  have := ho.size
  exact ⟨hk, b, o, hA, by omega, (ho.cell (p := ⟨b, _, none⟩) hb (by simp)).trans h0, (ho.cell (p := ⟨b, _, none⟩) hb (by simp)).trans h1⟩

def minT (L : List Tm) : Tm := L.foldl (fun m t => if cmpT t m < 0 then t else m) (1, 0)
theorem minT_snoc (L : List Tm) (t : Tm) : minT (L ++ [t]) = if cmpT t (minT L) < 0 then t else minT L := by unfold minT; rw [List.foldl_append]; rfl
theorem snoc_ind {α : Type} {P : List α → Prop} (h0 : P []) (h1 : ∀ L t, P L → P (L ++ [t])) (L : List α) : P L := by
  rw [← List.reverse_reverse L]
  induction L.reverse with
  | nil => exact h0
  | cons a l ih => rw [List.reverse_cons]; exact h1 _ _ ih
theorem minT_right (L : List Tm) : (minT L).right = true ∧ (minT L = (1, 0) ∨ minT L ∈ L) := by
  refine snoc_ind (P := fun L => (minT L).right = true ∧ (minT L = (1, 0) ∨ minT L ∈ L)) ⟨right_never, .inl rfl⟩ (fun L t ih => ?_) L
  rw [minT_snoc]
  split
  · rename_i h
    refine ⟨?_, .inr (by simp)⟩
    unfold cmpT at h
    split at h
    · rename_i hh; exact hh.1
    · omega
  · exact ⟨ih.1, ih.2.imp id (fun h => by simp [h])⟩
theorem minT_ok {L : List Tm} (h : ∀ t ∈ L, t.ok) : (minT L).ok := by
  rcases (minT_right L).2 with e | e
  · rw [e]; exact ok_never
  · exact h _ e
theorem minT_le {L : List Tm} (hok : ∀ t ∈ L, t.ok) : ∀ t ∈ L, t.right = true → cmpT (minT L) t ≤ 0 := by
  revert hok
  refine snoc_ind (P := fun L => (∀ t ∈ L, t.ok) → ∀ t ∈ L, t.right = true → cmpT (minT L) t ≤ 0) (fun _ t h => by simp at h) (fun L x ih hok t ht hr => ?_) L
  have hL : ∀ t ∈ L, t.ok := fun t h => hok t (by simp [h])
  have mo := minT_ok hL
  have mr := (minT_right L).1
  have xo := hok x (by simp)
  rw [minT_snoc]
  rcases List.mem_append.1 ht with h | h
  · have h1 := ih hL t h hr
    split
    · rename_i hlt
      have xr : x.right = true := by
        unfold cmpT at hlt
        split at hlt
        · rename_i hh; exact hh.1
        · omega
      exact cmp_trans xo mo (hL t h) xr mr hr (by omega) h1
    · exact h1
  · simp at h
    subst h
    split
    · rw [cmp_self]; omega
    · rename_i hlt
      rw [cmp_neg]; omega

theorem take_succ_tm {L : List Tm} {k : Nat} (h : k < L.length) : L.take (k + 1) = L.take k ++ [L[k]] := List.take_succ_eq_append_getElem h
theorem minT_take_ok {L : List Tm} (h : ∀ (i : Nat) t, L[i]? = some t → t.ok) (k : Nat) : (minT (L.take k)).ok :=
  minT_ok fun t ht => by
    obtain ⟨i, hi⟩ := List.getElem?_of_mem (List.mem_of_mem_take ht)
    exact h i t hi

set_option maxHeartbeats 2000000 in
theorem min_any {A : Option Addr} {cap : Nat} {L : List Tm} {w : World} (hL : Times w A L) (hlen : L.length ≤ 1000000) :
    Calls Tryd.prog 21 #[.slice A L.length cap] w fun e w' => e = .returned (.agg #[.int .i64 (minT L).1, .int .i64 (minT L).2]) ∧ Only [] w w' := by
  have HL := Lib.hid hL
  clear hL
  go_enter Tryd.func21, Tryd.ntmps21
  go_wp2_with (fail)
  refine (never_any _).mono ?_
  rintro e w1 ⟨rfl, o1⟩
  have r1 := o1.blk (Blk.new w 23 #[.int .i64 0, .int .i64 0]) (by simp)
  have oo1 := ((Only.refl [] w).alloc (.cells #[.int .i64 0, .int .i64 0] 23)).trans o1 (by simp)
  have hz := r1.lt
  have R1 := Lib.hid r1
  have O1 := Lib.hid oo1
  clear o1 r1 oo1
  go_wp2_with (fail)
  go_loopw [9] (fun i wr => ∃ k : Nat, i = .int .i64 k ∧ k ≤ L.length ∧ Blk wr w1.heap.size 23 #[.int .i64 (minT (L.take k)).1, .int .i64 (minT (L.take k)).2] ∧ Blk wr w.heap.size 23 #[.int .i64 0, .int .i64 0] ∧ Only [] w wr) (fun i _ => L.length - (intOf i).toNat)
  case atStart => exact ⟨0, rfl, Nat.zero_le _, Blk.new _ _ _, R1.out.alloc _, O1.out.alloc _⟩
  case round =>
    obtain ⟨k, rfl, hk, hm, hr, ho⟩ := hrel
    by_cases hlt : k < L.length
    · obtain ⟨hok, b, o, rfl, hb, c0, c1⟩ := (HL.out.only ho) k L[k] (List.getElem?_eq_getElem hlt)
      have hmo := minT_take_ok (fun i t h => (HL.out i t h).1) k
      have hsn := minT_snoc (L.take k) L[k]
      rw [← take_succ_tm hlt] at hsn
      generalize L[k] = t at hok c0 c1 hsn
      generalize minT (L.take k) = m at hm hmo hsn
      obtain ⟨m0, m1, ml⟩ := hm.facts2
      have HS := Lib.hid hsn
      have HM := Lib.hid hm
      have HR := Lib.hid hr
      have HO := Lib.hid ho
      clear hsn hm hr ho
      go_wp2_with (fail)
      refine (cmp_any t m hok hmo _).mono ?_
      rintro e w2 ⟨rfl, o2⟩
      have hm2 := o2.blk (HM.out.alloc _) (by simp)
      have hr2 := o2.blk (HR.out.alloc _) (by simp)
      have hx2 := o2.blk (Blk.new wr 23 #[.int .i64 t.1, .int .i64 t.2]) (by simp)
      have ho2 := (HO.out.alloc (.cells #[.int .i64 t.1, .int .i64 t.2] 23)).trans o2 (by simp)
      obtain ⟨x0, x1, xl⟩ := hx2.facts2
      obtain ⟨y0, y1, yl⟩ := hm2.facts2
      have f0 := hm2.frozen 0
      have f1 := hm2.frozen 1
      have HM2 := Lib.hid hm2
      have HR2 := Lib.hid hr2
      have HO2 := Lib.hid ho2
      have hne : w.heap.size ≠ w1.heap.size := by omega
      clear hm2 hr2 hx2 ho2 o2 m0 m1
      by_cases hc : cmpT t m < 0
      · have hc' : decide (cmpT t m < 0) = true := by simpa using hc
        go_wp2_with (fail)
        go_roundw
        case rel =>
          refine ⟨k + 1, by go_num, by omega, ?_, (HR2.out.far hne _).far hne _, (HO2.out.setCell (.inr (by simp; omega)) _).setCell (.inr (by simp; omega)) _⟩
          rw [HS.out, if_pos hc]
          exact (HM2.out.set_ 0 _).set_ 1 _
        case measure => simp [intOf]; omega
      · have hc' : decide (cmpT t m < 0) = false := by simpa using hc
        go_wp2_with (fail)
        go_roundw
        case rel =>
          refine ⟨k + 1, by go_num, by omega, ?_, HR2.out, HO2.out⟩
          rw [HS.out, if_neg (by omega)]
          exact HM2.out
        case measure => simp [intOf]; omega
    · obtain rfl : k = L.length := by omega
      rw [List.take_length] at hm
      obtain ⟨m0, m1, ml⟩ := hm.facts2
      obtain ⟨r0, r1, rl⟩ := hr.facts2
      have f0 := hr.frozen 0
      have f1 := hr.frozen 1
      have HO := Lib.hid ho
      clear hm hr ho
      go_wp2_with (fail)
      exact bodyPost_ret (v := .agg #[.int .i64 (minT L).1, .int .i64 (minT L).2]) (by simp [results, Tryd.results21, go_sem, r0, r1]) rfl ⟨rfl, (HO.out.setCell (.inr (by simp)) _).setCell (.inr (by simp)) _⟩

end Go.Proofs.YtgfmahfdkiblbaaDoor
