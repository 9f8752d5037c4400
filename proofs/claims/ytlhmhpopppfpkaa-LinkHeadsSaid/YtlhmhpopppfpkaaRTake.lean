/- The document's Take. -/
import Derived.Test.YtlhmhpopppfpkaaRSend
namespace Go.Proofs.Ytlhmhpopppfpkaa
open Go.RowKit Go.Kx Go.Maps
set_option maxRecDepth 20000

theorem Row3.take {w : World} {A : Option Addr} {M : List It} (h : Row3 w A M) (i : Nat) : Row3 w A (M.take i) := fun j u hu => by
  rw [← flat3_take] at hu
  by_cases hj : j < i * 3
  · rw [List.getElem?_take_of_lt hj] at hu; exact h j u hu
  · rw [List.getElem?_take_eq_none (by omega)] at hu; cases hu
theorem own_cap {B : Nat} {w : World} {A : Option Addr} {n c : Nat} {t : TypeId} {L : List It} (h : w.ownsRow B t 3 (.slice A n c) n (flat3 L)) : n ≤ c := by
  rcases h.2 with ⟨h1, h2⟩ | ⟨g, cap', cur, h1, hb, hg, h3, h4, h5, hcur⟩
  · omega
  · injection h1 with _ _ h1
    omega
def RTook (B : Nat) (w : World) (mb n room : Nat) (m : List It) (a b : Int) (e : Ending) (w' : World) : Prop :=
  ((∀ x ∈ m, x.1 ≠ (a, b)) ∧ e = .returned (.tuple #[.int .i64 0, .bool false]) ∧ Only [] w w') ∨ (∃ i v, m[i]? = some ((a, b), v) ∧ (∀ x ∈ m.take i, x.1 ≠ (a, b)) ∧ e = .returned (.tuple #[.int .i64 v, .bool true]) ∧ ∃ A' c', RN B w' mb n room (m.take i ++ m.drop (i + 1)) A' c' ∧ Only [mb] w w' ∧ ∀ p, A' = some p → w.heap.size ≤ p.block)
set_option maxHeartbeats 2000000 in
theorem rtake_any {B : Nat} {w : World} {mb n room : Nat} {m : List It} {A : Option Addr} {c : Nat} (h : RN B w mb n room m A c) (a b : Int) (hl : m.length ≤ 1000000) (hB : B ≤ w.heap.size) :
    Calls Try.prog 14 #[.pointer (some ⟨mb, 0, none⟩), .int .i64 a, .int .i64 b] w (RTook B w mb n room m a b) := by
  obtain ⟨g0, g1, g2, gl⟩ := h.blk.facts3
  have HR := Lib.hid h
  clear h
  go_enter Try.func14, Try.ntmps14
  go_wp2_with (fail)
  clear g0 g1 g2
  go_loopw [8] (fun u wr => ∃ (i : Nat), u = .int .i64 i ∧ i ≤ m.length ∧ (∀ x y z, ((x, y), z) ∈ m.take i → (x, y) ≠ (a, b)) ∧ Only [] w wr) (fun u _ => m.length - (intOf u).toNat)
  case atStart => exact ⟨0, rfl, Nat.zero_le _, by simp, Only.refl _ _⟩
  case round =>
    obtain ⟨i, rfl, hi, hno, ho⟩ := hrel
    have HRr := Lib.hid (HR.out.keep ho)
    obtain ⟨g0, g1, g2, gl'⟩ := HRr.out.blk.facts3
    have HO := Lib.hid ho
    have HN := Lib.hid hno
    by_cases hlt : i < m.length
    · have hit : m[i]? = some m[i] := List.getElem?_eq_getElem hlt
      have hT := take_it hit
      obtain ⟨p, rfl, pl, pb, c0, c1, c2⟩ := own_cell rfl HRr.out.own hit
      generalize m[i] = e at hit hT c0 c1 c2
      have iz0 : (0 : Int) ≤ (i : Int) := by omega
      have iz1 : (i : Int) < (m.length : Int) := by omega
      have HT := Lib.hid hT
      clear ho hno hT
      obtain ⟨⟨x, y⟩, z⟩ := e
      dsimp only at c0 c1 c2
      have next : (x, y) ≠ (a, b) → ∀ x' y' z', ((x', y'), z') ∈ m.take (i + 1) → (x', y') ≠ (a, b) := fun hne x' y' z' hm => by
        rw [HT.out] at hm
        rcases List.mem_append.1 hm with h | h
        · exact HN.out _ _ _ h
        · simp at h; rw [h.1.1, h.1.2]; exact hne
      have NX := Lib.hid next
      clear next
      by_cases hx : x = a
      · have hbx : (x == a) = true := by simpa using hx
        by_cases hy : y = b
        · subst hx; subst hy
          have hby : (y == y) = true := by simp
          have hcap := own_cap HRr.out.own
          have hc1 : (i : Int) ≤ (c : Int) := by omega
          have hR3 := own_row3 (L := m) rfl HRr.out.own
          have hRd := own_row3_drop (L := m) rfl HRr.out.own (i + 1)
          obtain ⟨A1, c1', w1, hrun, ho1, o1, ha1⟩ := run_append_row3 (P := Try.prog) (t := 39) (n := 0) (L1 := []) (c := c) (v := .slice none 0 0) 39 Try.underlying39 it_info rfl (World.ownsRow_nil wr wr.heap.size 52 3) (hR3.take i) (m := i) (by rw [List.length_take]; omega) (Nat.le_refl _) (by unfold maxLen; omega) (by omega)
          rw [Nat.zero_add] at hrun ho1
          rw [List.nil_append] at ho1
          have o1' : Only [] wr w1 := o1.mono (fun _ h => by simp [Value.ownBlock] at h)
          have hR1 := HRr.out.keep o1'
          obtain ⟨k0, k1, k2, kl'⟩ := hR1.blk.facts3
          have key : ∀ A0 c0, Row3 wr A0 (m.drop (i + 1)) → ∃ A2 c2 w2, (Builtin.append_ #[39, 39] 39 #[.slice A1 i c1', .slice A0 (m.length - (i + 1)) c0]).run Try.prog w1 = .ok (.slice A2 (i + (m.length - (i + 1))) c2) w2 ∧ w2.cell? ⟨mb, 2, none⟩ = some (.slice (some ⟨p, 0, none⟩) m.length c) ∧ w2.frozen? ⟨mb, 2, none⟩ = false ∧ mb < w2.heap.size ∧ Hid (RTook B w mb n room m x y (.returned (.tuple #[.int .i64 z, .bool true])) (w2.setCell ⟨mb, 2, none⟩ (.slice A2 (i + (m.length - (i + 1))) c2))) := fun A0 c0 hA0 => by
            obtain ⟨A2, c2, w2, hrun2, ho2, o2, ha2⟩ := run_append_row3 (P := Try.prog) (t := 39) (c := c0) 39 Try.underlying39 it_info rfl ho1 (hA0.only o1') (m := m.length - (i + 1)) (by rw [List.length_drop]) o1.size (by unfold maxLen; omega) (by omega)
            have hmA : mb ∉ (Value.slice A1 i c1').ownBlock.toList := fun hm => by
              cases A1 with
              | none => simp [Value.ownBlock] at hm
              | some p =>
                have : p.block = mb := by simpa [Value.ownBlock, eq_comm] using hm
                rcases ha1 p rfl with h | h
                · simp [Value.ownBlock] at h
                · omega
            have hb2 := o2.blk hR1.blk hmA
            have ogg : Only [] wr w2 := o1'.trans o2 (fun x hx => .inr (by
              cases A1 with
              | none => simp [Value.ownBlock] at hx
              | some p =>
                have : p.block = x := by simpa [Value.ownBlock, eq_comm] using hx
                rcases ha1 p rfl with h | h
                · simp [Value.ownBlock] at h
                · omega))
            refine ⟨A2, c2, w2, hrun2, hb2.facts3.2.2.1, hb2.frozen 2, hb2.lt, Lib.hid (.inr ⟨i, z, hit, fun e he => HN.out _ _ _ he, rfl, A2, c2, ⟨?_, ?_, HRr.out.base⟩, (HO.out.trans ogg (by simp)).mono (by simp) |>.setCell (.inl (by simp)) _, fun p hp => by
              have h1 := (ho2.lt p.block (by rw [hp]; rfl)).1
              exact Nat.le_trans HO.out.size h1⟩)⟩
            · have := hb2.set_ 2 (.slice A2 (i + (m.length - (i + 1))) c2)
              have e : (m.take i ++ m.drop (i + 1)).length = i + (m.length - (i + 1)) := by rw [List.length_append, List.length_take, List.length_drop]; omega
              rw [e]
              exact this
            · have e : (m.take i ++ m.drop (i + 1)).length = i + (m.length - (i + 1)) := by rw [List.length_append, List.length_take, List.length_drop]; omega
              rw [e]
              have := ownsRow_only (only_setCell w2 ⟨mb, 2, none⟩ (.slice A2 (i + (m.length - (i + 1))) c2)) ho2 (fun b hb hm => by
                have hbm : b = mb := by simpa using hm
                subst hbm
                rcases ho2.2 with ⟨h1, h2⟩ | ⟨g, cap, cur, h1, _, hg, _⟩
                · rw [h1] at hb; simp [Value.ownBlock] at hb
                · rw [h1] at hb
                  simp [Value.ownBlock] at hb
                  subst hb
                  unfold Blk at hb2
                  rw [hb2] at hg
                  injection hg with hg
                  injection hg with _ hg _
                  exact absurd hg (by decide))
              exact own_low this (Nat.le_trans hB HO.out.size)
          clear ho1 o1' o1 hR1 ha1 hit hR3
          have ic0 : (0 : Int) ≤ (i : Int) + 1 := by omega
          have ic1 : (i : Int) + 1 ≤ (m.length : Int) := by omega
          by_cases hcc : c - (i + 1) = 0
          · have hdr : m.drop (i + 1) = [] := List.drop_eq_nil_iff.2 (by omega)
            obtain ⟨A2, c2', w2, hrun2, j2, hfr, jl, HF⟩ := key (some ⟨p, 0, none⟩) 0 (by rw [hdr]; exact Row3.nil _ _)
            clear key hRd hdr
            go_wp2_with (at_builtin; first | (refine wpList_append_run hrun rfl _ _ rfl rfl rfl rfl ?_; clear hrun) | (refine wpList_append_run hrun2 rfl _ _ rfl rfl rfl rfl ?_; clear hrun2))
            go_ret2
            exact HF.out
          · obtain ⟨A2, c2', w2, hrun2, j2, hfr, jl, HF⟩ := key (some ⟨p, (i + 1) * 3, none⟩) (c - (i + 1)) hRd
            clear key hRd
            go_wp2_with (at_builtin; first | (refine wpList_append_run hrun rfl _ _ rfl rfl rfl rfl ?_; clear hrun) | (refine wpList_append_run hrun2 rfl _ _ rfl rfl rfl rfl ?_; clear hrun2))
            go_ret2
            exact HF.out
        · have hby : (y == b) = false := by simpa using hy
          go_wp2_with (fail)
          go_roundw
          case rel => exact ⟨i + 1, by go_num, by omega, NX.out (by simp [hy]), HO.out⟩
          case measure => simp [intOf]; omega
      · have hbx : (x == a) = false := by simpa using hx
        go_wp2_with (fail)
        go_roundw
        case rel => exact ⟨i + 1, by go_num, by omega, NX.out (by simp [hx]), HO.out⟩
        case measure => simp [intOf]; omega
    · have hie : i = m.length := by omega
      have ht : m.take i = m := by rw [hie]; exact List.take_length
      have iz1 : ¬ (i : Int) < (m.length : Int) := by omega
      rw [ht] at HN
      clear ho ht hie hno
      go_wp2_with (fail)
      go_ret2
      exact .inl ⟨fun e he => HN.out _ _ _ he, rfl, HO.out⟩
end Go.Proofs.Ytlhmhpopppfpkaa
