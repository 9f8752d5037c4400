/- The document's Send. -/
import Derived.Test.YtlhmhpopppfpkaaRow3
namespace Go.Proofs.Ytlhmhpopppfpkaa
open Go.RowKit Go.Kx Go.Maps
set_option maxRecDepth 20000

structure RN (B : Nat) (w : World) (mb n room : Nat) (m : List It) (A : Option Addr) (c : Nat) : Prop where
  blk : Blk w mb 41 #[.int .i64 n, .int .i64 room, .slice A m.length c]
  own : w.ownsRow B 52 3 (.slice A m.length c) m.length (flat3 m)
  base : B ≤ mb
theorem RN.ne {B : Nat} {w : World} {mb n room : Nat} {m : List It} {A : Option Addr} {c : Nat} (h : RN B w mb n room m A c) : ∀ b, (Value.slice A m.length c).ownBlock = some b → b ≠ mb := fun b hb e => by
  rcases h.own.2 with ⟨h1, h2⟩ | ⟨g, cap, cur, h1, _, hg, _⟩
  · rw [h1] at hb; simp [Value.ownBlock] at hb
  · rw [h1] at hb
    simp [Value.ownBlock] at hb
    subst hb
    subst e
    have := h.blk
    unfold Blk at this
    rw [hg] at this
    injection this with this
    injection this with _ h2 _
    exact absurd h2 (by decide)
theorem RN.only {B : Nat} {S : List Nat} {w w' : World} {mb n room : Nat} {m : List It} {A : Option Addr} {c : Nat} (h : RN B w mb n room m A c) (o : Only S w w') (h1 : mb ∉ S) (h2 : ∀ b, (Value.slice A m.length c).ownBlock = some b → b ∉ S) : RN B w' mb n room m A c :=
  ⟨o.blk h.blk h1, ownsRow_only o h.own h2, h.base⟩
theorem RN.keep {B : Nat} {w w' : World} {mb n room : Nat} {m : List It} {A : Option Addr} {c : Nat} (h : RN B w mb n room m A c) (o : Only [] w w') : RN B w' mb n room m A c := h.only o (by simp) (by simp)
def cntM (m : List It) (p : Pr) : Nat := m.countP fun e => e.1 == p
theorem cntM_snoc (m : List It) (e : It) (p : Pr) : cntM (m ++ [e]) p = cntM m p + if e.1 = p then 1 else 0 := by
  unfold cntM
  rw [List.countP_append]
  by_cases h : e.1 = p <;> simp [h]
theorem cntM_le (m : List It) (p : Pr) : cntM m p ≤ m.length := List.countP_le_length
theorem take_it {L : List It} {i : Nat} {e : It} (h : L[i]? = some e) : L.take (i + 1) = L.take i ++ [e] := by
  rw [List.take_add_one, h]; rfl
theorem rsend_bad {B : Nat} {w : World} {mb n room : Nat} {m : List It} {A : Option Addr} {c : Nat} (h : RN B w mb n room m A c) {a b : Int} (v : Int) (hbad : Bad n a b) :
    Calls Try.prog 13 #[.pointer (some ⟨mb, 0, none⟩), .int .i64 a, .int .i64 b, .int .i64 v] w fun e w' => e = .returned (.int .i64 1) ∧ Only [] w w' := by
  obtain ⟨g0, g1, g2, gl⟩ := h.blk.facts3
  clear h
  have key : decide (a < 0) = true ∨ decide (a < 0) = false ∧ decide ((n : Int) ≤ a) = true ∨ decide (a < 0) = false ∧ decide ((n : Int) ≤ a) = false ∧ decide (b < 0) = true ∨ decide (a < 0) = false ∧ decide ((n : Int) ≤ a) = false ∧ decide (b < 0) = false ∧ decide ((n : Int) ≤ b) = true ∨ decide (a < 0) = false ∧ decide ((n : Int) ≤ a) = false ∧ decide (b < 0) = false ∧ decide ((n : Int) ≤ b) = false ∧ (a == b) = true := by
    unfold Bad at hbad
    simp; omega
  clear hbad
  rcases key with h1 | ⟨h1, h2⟩ | ⟨h1, h2, h3⟩ | ⟨h1, h2, h3, h4⟩ | ⟨h1, h2, h3, h4, h5⟩
  all_goals
    go_enter Try.func13, Try.ntmps13
    go_wp2_with (fail)
    go_ret
    exact ⟨rfl, Only.refl _ _⟩
theorem own_low {G B : Nat} {w : World} {e : TypeId} {size n : Nat} {v : Value} {xs : List Value} (h : w.ownsRow B e size v n xs) (hG : G ≤ B) : w.ownsRow G e size v n xs := by
  refine ⟨h.1, ?_⟩
  rcases h.2 with h | ⟨g, cap, cur, h1, h2, h3⟩
  · exact .inl h
  · exact .inr ⟨g, cap, cur, h1, Nat.le_trans hG h2, h3⟩
def RSent (B : Nat) (w : World) (mb n room : Nat) (m : List It) (a b v : Int) (e : Ending) (w' : World) : Prop :=
  (room ≤ cntM m (a, b) ∧ e = .returned (.int .i64 14) ∧ Only [] w w') ∨ (cntM m (a, b) < room ∧ e = .returned (.int .i64 0) ∧ ∃ A' c', RN B w' mb n room (m ++ [((a, b), v)]) A' c' ∧ Only [mb] w w' ∧ ∀ p, A' = some p → w.heap.size ≤ p.block)
set_option maxHeartbeats 2000000 in
theorem rsend_good {B : Nat} {w : World} {mb n room : Nat} {m : List It} {A : Option Addr} {c : Nat} (h : RN B w mb n room m A c) {a b : Int} (v : Int) (hgood : ¬ Bad n a b) (hl : m.length ≤ 1000000) (hB : B ≤ w.heap.size) :
    Calls Try.prog 13 #[.pointer (some ⟨mb, 0, none⟩), .int .i64 a, .int .i64 b, .int .i64 v] w (RSent B w mb n room m a b v) := by
  obtain ⟨g0, g1, g2, gl⟩ := h.blk.facts3
  have h1 : decide (a < 0) = false := by unfold Bad at hgood; simp; omega
  have h2 : decide ((n : Int) ≤ a) = false := by unfold Bad at hgood; simp; omega
  have h3 : decide (b < 0) = false := by unfold Bad at hgood; simp; omega
  have h4 : decide ((n : Int) ≤ b) = false := by unfold Bad at hgood; simp; omega
  have h5 : (a == b) = false := by unfold Bad at hgood; simp; omega
  have HR := Lib.hid h
  clear h hgood
  go_enter Try.func13, Try.ntmps13
  go_wp2_with (fail)
  clear g0 g1 g2 h1 h2 h3 h4 h5
  go_loopw [9, 10] (fun s u wr => ∃ (i : Nat), s = .int .i64 (cntM (m.take i) (a, b)) ∧ u = .int .i64 i ∧ i ≤ m.length ∧ Only [] w wr) (fun _ u _ => m.length - (intOf u).toNat)
  case atStart => exact ⟨0, rfl, rfl, Nat.zero_le _, Only.refl _ _⟩
  case round =>
    obtain ⟨i, rfl, rfl, hi, ho⟩ := hrel
    have HRr := Lib.hid (HR.out.keep ho)
    obtain ⟨g0, g1, g2, gl'⟩ := HRr.out.blk.facts3
    have HO := Lib.hid ho
    by_cases hlt : i < m.length
    · have hit : m[i]? = some m[i] := List.getElem?_eq_getElem hlt
      have hT := take_it hit
      obtain ⟨p, rfl, pl, pb, c0, c1, c2⟩ := own_cell rfl HRr.out.own hit
      generalize m[i] = e at hit hT c0 c1 c2
      have iz0 : (0 : Int) ≤ (i : Int) := by omega
      have iz1 : (i : Int) < (m.length : Int) := by omega
      have hcl := cntM_le (m.take i) (a, b)
      rw [List.length_take] at hcl
      have hcs : cntM (m.take (i + 1)) (a, b) = cntM (m.take i) (a, b) + if e.1 = (a, b) then 1 else 0 := by rw [hT, cntM_snoc]
      have HC := Lib.hid hcs
      clear hT ho hcs
      obtain ⟨⟨x, y⟩, z⟩ := e
      dsimp only at c0 c1 c2
      by_cases hx : x = a
      · have hbx : (x == a) = true := by simpa using hx
        by_cases hy : y = b
        · have hby : (y == b) = true := by simpa using hy
          go_wp2_with (fail)
          go_roundw
          case rel => exact ⟨i + 1, by rw [HC.out, if_pos (by rw [hx, hy])]; go_num, by go_num, by omega, HO.out⟩
          case measure => simp [intOf]; omega
        · have hby : (y == b) = false := by simpa using hy
          go_wp2_with (fail)
          go_roundw
          case rel => exact ⟨i + 1, by rw [HC.out, if_neg (by simp [hy])]; rfl, by go_num, by omega, HO.out⟩
          case measure => simp [intOf]; omega
      · have hbx : (x == a) = false := by simpa using hx
        go_wp2_with (fail)
        go_roundw
        case rel => exact ⟨i + 1, by rw [HC.out, if_neg (by simp [hx])]; rfl, by go_num, by omega, HO.out⟩
        case measure => simp [intOf]; omega
    · have hie : i = m.length := by omega
      have ht : m.take i = m := by rw [hie]; exact List.take_length
      have iz1 : ¬ (i : Int) < (m.length : Int) := by omega
      rw [ht]
      clear ho ht hie
      by_cases hf : room ≤ cntM m (a, b)
      · have hfd : decide ((room : Int) ≤ (cntM m (a, b) : Int)) = true := by simp; omega
        go_wp2_with (fail)
        go_ret
        exact .inl ⟨hf, rfl, HO.out⟩
      · have hfd : decide ((room : Int) ≤ (cntM m (a, b) : Int)) = false := by simp; omega
        obtain ⟨A1, c1, w1, hrun, ho1, o1, ha1⟩ := run_append_row3 (P := Try.prog) (t := 39) (n := 0) (L1 := []) (c := c) (v := .slice none 0 0) 39 Try.underlying39 it_info rfl (World.ownsRow_nil wr wr.heap.size 52 3) (own_row3 (L := m) rfl HRr.out.own) rfl (Nat.le_refl _) (by unfold maxLen; omega) (by omega)
        rw [Nat.zero_add] at hrun ho1
        rw [List.nil_append] at ho1
        have HO1 := Lib.hid ho1
        have HW1 := Lib.hid o1
        have hR1 := HRr.out.keep o1
        have HR1 := Lib.hid hR1
        obtain ⟨k0, k1, k2, kl'⟩ := hR1.blk.facts3
        have HA1 := Lib.hid ha1
        obtain ⟨g2, c2, w2, hrun2, ho2, o2, ha2⟩ := run_append3 (P := Try.prog) (t := 39) 52 39 Try.underlying39 it_info rfl ho1 ((a, b), v) o1.size (by unfold maxLen; omega) (by omega)
        have hmA : mb ∉ (Value.slice A1 m.length c1).ownBlock.toList := fun hm => by
          cases A1 with
          | none => simp [Value.ownBlock] at hm
          | some p =>
            have : p.block = mb := by simpa [Value.ownBlock, eq_comm] using hm
            rcases ha1 p rfl with h | h
            · simp [Value.ownBlock] at h
            · have := HRr.out.blk.lt; omega
        have hb2 := o2.blk hR1.blk hmA
        have hfr := hb2.frozen 2
        have ogg : Only [] wr w2 := (o1.mono (fun _ h => by simp [Value.ownBlock] at h)).trans o2 (fun x hx => .inr (by
          cases A1 with
          | none => simp [Value.ownBlock] at hx
          | some p =>
            have : p.block = x := by simpa [Value.ownBlock, eq_comm] using hx
            rcases ha1 p rfl with h | h
            · simp [Value.ownBlock] at h
            · omega))
        have hgm : g2 ≠ mb := fun e => by
          rw [e] at ho2
          rcases ho2.2 with ⟨h1, h2⟩ | ⟨g, cap, cur, h1, _, hg, _⟩
          · cases h1
          · injection h1 with h1 _ _
            injection h1 with h1
            injection h1 with h1 _ _
            subst h1
            unfold Blk at hb2
            rw [hb2] at hg
            injection hg with hg
            injection hg with _ hg _
            exact absurd hg (by decide)
        have HB2 := Lib.hid hb2
        have HOG := Lib.hid ogg
        have HO2 := Lib.hid ho2
        obtain ⟨j0, j1, j2, hgl⟩ := hb2.facts3
        clear ho1 o1 hR1 ha1 hmA hb2 ogg ho2 ha2 o2
        go_wp2_with (at_builtin; first | (refine wpList_append_run hrun rfl _ _ rfl rfl rfl rfl ?_; clear hrun) | (refine wpList_append_run hrun2 rfl _ _ rfl rfl rfl rfl ?_; clear hrun2))
        go_ret
        have hsz : B ≤ wr.heap.size := Nat.le_trans hB HO.out.size
        refine .inr ⟨by omega, rfl, some ⟨g2, 0, none⟩, c2, ⟨?_, ?_, HRr.out.base⟩, (HO.out.trans HOG.out (by simp)).mono (by simp) |>.setCell (.inl (by simp)) _, fun p hp => by cases hp; exact Nat.le_trans HO.out.size (HO2.out.lt g2 rfl).1⟩
        · have := HB2.out.set_ 2 (.slice (some ⟨g2, 0, none⟩) (m.length + 1) c2)
          rw [List.length_append]
          exact this
        · rw [List.length_append, flat3_snoc]
          have := ownsRow_only (only_setCell w2 ⟨mb, 2, none⟩ (.slice (some ⟨g2, 0, none⟩) (m.length + 1) c2)) HO2.out (fun b hb => by
            have : g2 = b := by simpa [Value.ownBlock] using hb
            simp; omega)
          exact own_low this hsz
end Go.Proofs.Ytlhmhpopppfpkaa
