/- The document's Drop, Count, Same; list; even. -/
import Derived.Test.YtpedlapemgjgaaaDrop
namespace Go.Proofs.Ytpedlapemgjgaaa
open Go.RowKit Go.Kx Go.Bag
set_option maxRecDepth 100000
theorem rowJ {w : World} {A : Option Addr} {M : List Ent} (h : RowC w A (flat2 M)) {i : Nat} {e : Ent} (hi : M[i]? = some e) : ∃ b o, A = some ⟨b, o, none⟩ ∧ b < w.heap.size ∧ w.cell? ⟨b, o + i * 2, none⟩ = some (.int .i64 e.1) ∧ w.cell? ⟨b, o + i * 2 + 1, none⟩ = some (.int .i64 e.2) := by
  obtain ⟨f0, f1⟩ := flat2_at M i e hi
  obtain ⟨b, o, hA, hb, c0⟩ := h _ _ f0
  obtain ⟨b', o', hA', -, c1⟩ := h _ _ f1
  rw [hA] at hA'
  cases hA'
  exact ⟨b, o, hA, hb, c0, c1⟩
theorem rowI {w : World} {A : Option Addr} {M : List Int} (h : RowC w A (flat1 M)) {i : Nat} {e : Int} (hi : M[i]? = some e) : ∃ b o, A = some ⟨b, o, none⟩ ∧ b < w.heap.size ∧ w.cell? ⟨b, o + i, none⟩ = some (.int .i64 e) := by
  obtain ⟨b, o, hA, hb, c0⟩ := h _ _ (flat1_at hi)
  exact ⟨b, o, hA, hb, c0⟩
theorem at_some {α : Type} {L : List α} {i : Nat} (h : i < L.length) : ∃ e, L[i]? = some e := ⟨L[i], List.getElem?_eq_getElem h⟩
/-! ### what is taken out -/
def rdel (l : List Ent) (k : Int) : List Ent := l.eraseP (fun e => e.1 == k)
def rhas (l : List Ent) (k : Int) : Bool := l.any (fun e => e.1 == k)
theorem rhas_snoc (l : List Ent) (e : Ent) (k : Int) : rhas (l ++ [e]) k = (rhas l k || (e.1 == k)) := by unfold rhas; simp
theorem rdel_done {l : List Ent} {k : Int} (h : rhas l k = true) (e : Ent) : rdel (l ++ [e]) k = rdel l k ++ [e] := by
  unfold rdel rhas at *
  obtain ⟨a, ha, hp⟩ := List.any_eq_true.1 h
  exact List.eraseP_append_left (p := fun e => e.1 == k) (a := a) hp _ ha
theorem rdel_none {l : List Ent} {k : Int} (h : rhas l k = false) : rdel l k = l := by
  unfold rdel rhas at *
  refine List.eraseP_of_forall_not (fun a ha => ?_)
  have := List.any_eq_false.1 h a ha
  simpa using this
theorem rdel_now {l : List Ent} {k : Int} {e : Ent} (h : rhas l k = false) (he : (e.1 == k) = true) : rdel (l ++ [e]) k = rdel l k := by
  rw [rdel_none h]
  unfold rdel rhas at *
  rw [List.eraseP_append_right]
  · simp [he]
  · intro a ha
    have := List.any_eq_false.1 h a ha
    simpa using this
theorem rdel_not {l : List Ent} {k : Int} {e : Ent} (h : rhas l k = false) (he : (e.1 == k) = false) : rdel (l ++ [e]) k = rdel l k ++ [e] := by
  rw [rdel_none h, rdel_none (by rw [rhas_snoc, h, he]; rfl)]
theorem rdel_le (l : List Ent) (k : Int) : (rdel l k).length ≤ l.length := List.length_eraseP_le
set_option maxHeartbeats 1000000 in
theorem refdel_any {w : World} {m : List Ent} {A : Option Addr} {c : Nat} (hm : RowC w A (flat2 m)) (k : Int) (hl : m.length ≤ 1000000) :
    Calls Try.prog 25 #[.slice A m.length c, .int .i64 k] w fun e w' => ∃ A' c', e = .returned (.tuple #[.slice A' (rdel m k).length c', .bool (rhas m k)]) ∧ w'.ownsRow w.heap.size 49 2 (.slice A' (rdel m k).length c') (rdel m k).length (flat2 (rdel m k)) ∧ Only [] w w' := by
  have HM := Lib.hid hm
  clear hm
  go_enter Try.func25, Try.ntmps25
  go_wp2_with (fail)
  go_loopw [6, 7, 8] (fun v b u wr => ∃ (i : Nat) (A' : Option Addr) (c' : Nat), v = .slice A' (rdel (m.take i) k).length c' ∧ b = .bool (rhas (m.take i) k) ∧ u = .int .i64 i ∧ i ≤ m.length ∧ wr.ownsRow w.heap.size 49 2 (.slice A' (rdel (m.take i) k).length c') (rdel (m.take i) k).length (flat2 (rdel (m.take i) k)) ∧ Only [] w wr) (fun _ _ u _ => m.length - (intOf u).toNat)
  case atStart => exact ⟨0, none, 0, rfl, rfl, rfl, Nat.zero_le _, World.ownsRow_nil _ _ _ _, Only.refl _ _⟩
  case round =>
    obtain ⟨i, A', c', rfl, rfl, rfl, hi, hO, ho⟩ := hrel
    by_cases hlt : i < m.length
    · obtain ⟨e, hit⟩ := at_some hlt
      have hT := take_succ_of hit
      obtain ⟨p, po, rfl, pl, c0, c1⟩ := rowJ (HM.out.only ho) hit
      have iz0 : (0 : Int) ≤ (i : Int) := by omega
      have iz1 : (i : Int) < (m.length : Int) := by omega
      have hdl := rdel_le (m.take i) k
      rw [List.length_take] at hdl
      have HO := Lib.hid ho
      have HW := Lib.hid hO
      by_cases hd : rhas (m.take i) k = true
      · have h1 := rdel_done hd e
        rw [← hT] at h1
        have h2 : rhas (m.take (i + 1)) k = true := by rw [hT, rhas_snoc, hd]; rfl
        obtain ⟨q, c2, W3, hrun, hw3, o3, hq⟩ := run_append2 (P := Try.prog) 49 51 Try.underlying51 item_info rfl hO e ho.size (by unfold maxLen; omega) (by omega)
        have o4 : Only [] w W3 := ho.trans o3 (fun y hy => .inr (by
          have := hO.lt y (by simpa using hy)
          exact this.1))
        have HW3 := Lib.hid hw3
        have HO4 := Lib.hid o4
        clear hO ho hw3 o3 o4
        rw [hd]
        go_wp2_with (at_builtin; refine wpList_append_run hrun rfl _ _ rfl rfl rfl rfl ?_)
        go_roundw
        case rel => exact ⟨i + 1, _, c2, by rw [h1, List.length_append]; rfl, by rw [h2], by go_num, by omega, by rw [h1, List.length_append, flat2_snoc]; exact HW3.out, HO4.out⟩
        case measure => simp [intOf]; omega
      · replace hd : rhas (m.take i) k = false := by simpa using hd
        by_cases hk : e.1 = k
        · have hbk : (e.1 == k) = true := by simpa using hk
          have h1 := rdel_now hd hbk
          rw [← hT] at h1
          have h2 : rhas (m.take (i + 1)) k = true := by rw [hT, rhas_snoc, hbk]; simp
          clear hO ho
          rw [hd]
          go_wp2_with (fail)
          go_roundw
          case rel => exact ⟨i + 1, A', c', by rw [h1], by rw [h2], by go_num, by omega, by rw [h1]; exact HW.out, HO.out⟩
          case measure => simp [intOf]; omega
        · have hbk : (e.1 == k) = false := by simpa using hk
          have h1 := rdel_not hd hbk
          rw [← hT] at h1
          have h2 : rhas (m.take (i + 1)) k = false := by rw [hT, rhas_snoc, hbk, hd]; rfl
          obtain ⟨q, c2, W3, hrun, hw3, o3, hq⟩ := run_append2 (P := Try.prog) 49 51 Try.underlying51 item_info rfl hO e ho.size (by unfold maxLen; omega) (by omega)
          have o4 : Only [] w W3 := ho.trans o3 (fun y hy => .inr (by
            have := hO.lt y (by simpa using hy)
            exact this.1))
          have HW3 := Lib.hid hw3
          have HO4 := Lib.hid o4
          clear hO ho hw3 o3 o4
          rw [hd]
          go_wp2_with (at_builtin; refine wpList_append_run hrun rfl _ _ rfl rfl rfl rfl ?_)
          go_roundw
          case rel => exact ⟨i + 1, _, c2, by rw [h1, List.length_append]; rfl, by rw [h2], by go_num, by omega, by rw [h1, List.length_append, flat2_snoc]; exact HW3.out, HO4.out⟩
          case measure => simp [intOf]; omega
    · have hie : i = m.length := by omega
      have ht : m.take i = m := by rw [hie]; exact List.take_length
      rw [ht] at hO ⊢
      have iz1 : ¬ (i : Int) < (m.length : Int) := by omega
      have HO := Lib.hid ho
      have HW := Lib.hid hO
      clear hO ho hie
      go_wp2_with (fail)
      go_ret2
      exact ⟨A', c', rfl, HW.out, HO.out⟩
/-! ### how many are level -/
def rcnt (l : List Ent) (k : Int) : Nat := l.countP (fun e => e.1 == k)
theorem rcnt_le (l : List Ent) (k : Int) : rcnt l k ≤ l.length := List.countP_le_length
theorem rcnt_snoc (l : List Ent) (e : Ent) (k : Int) : rcnt (l ++ [e]) k = rcnt l k + if (e.1 == k) = true then 1 else 0 := by
  unfold rcnt
  rw [List.countP_append]
  simp
set_option maxHeartbeats 1000000 in
theorem refcnt_any {w : World} {m : List Ent} {A : Option Addr} {c : Nat} (hm : RowC w A (flat2 m)) (k : Int) (hl : m.length ≤ 1000000) :
    Calls Try.prog 28 #[.slice A m.length c, .int .i64 k] w fun e w' => e = .returned (.int .i64 (rcnt m k : Nat)) ∧ Only [] w w' := by
  have HM := Lib.hid hm
  clear hm
  go_enter Try.func28, Try.ntmps28
  go_wp2_with (fail)
  go_loopw [5, 6] (fun v u wr => ∃ (i : Nat), v = .int .i64 (rcnt (m.take i) k : Nat) ∧ u = .int .i64 i ∧ i ≤ m.length ∧ Only [] w wr) (fun _ u _ => m.length - (intOf u).toNat)
  case atStart => exact ⟨0, rfl, rfl, Nat.zero_le _, Only.refl _ _⟩
  case round =>
    obtain ⟨i, rfl, rfl, hi, ho⟩ := hrel
    by_cases hlt : i < m.length
    · obtain ⟨e, hit⟩ := at_some hlt
      have hT := rcnt_snoc (m.take i) e k
      rw [← take_succ_of hit] at hT
      obtain ⟨p, po, rfl, pl, c0, c1⟩ := rowJ (HM.out.only ho) hit
      have iz0 : (0 : Int) ≤ (i : Int) := by omega
      have iz1 : (i : Int) < (m.length : Int) := by omega
      have hdl := rcnt_le (m.take i) k
      rw [List.length_take] at hdl
      have HO := Lib.hid ho
      clear ho
      by_cases hk : e.1 = k
      · have hbk : (e.1 == k) = true := by simpa using hk
        rw [if_pos hbk] at hT
        go_wp2_with (fail)
        go_roundw
        case rel => exact ⟨i + 1, by rw [hT]; go_num, by go_num, by omega, HO.out⟩
        case measure => simp [intOf]; omega
      · have hbk : (e.1 == k) = false := by simpa using hk
        rw [if_neg (by rw [hbk]; decide)] at hT
        go_wp2_with (fail)
        go_roundw
        case rel => exact ⟨i + 1, by rw [hT]; rfl, by go_num, by omega, HO.out⟩
        case measure => simp [intOf]; omega
    · have hie : i = m.length := by omega
      have ht : m.take i = m := by rw [hie]; exact List.take_length
      rw [ht]
      have iz1 : ¬ (i : Int) < (m.length : Int) := by omega
      have HO := Lib.hid ho
      clear ho hie
      go_wp2_with (fail)
      go_ret
      exact ⟨rfl, HO.out⟩
/-! ### the same items -/
theorem neq_49 (a b c d : Int) (W : World) : (binOp .neq 49 (.agg #[.int .i64 a, .int .i64 b]) (.agg #[.int .i64 c, .int .i64 d])).run Try.prog W = .ok (.bool (!decide (a = c ∧ b = d))) W := by
  by_cases h : a = c <;> by_cases h2 : b = d <;> simp [go_sem, h, h2]
set_option maxHeartbeats 1000000 in
theorem refsame_any {w : World} {l m : List Ent} {A A' : Option Addr} {c c' : Nat} (hlr : RowC w A (flat2 l)) (hmr : RowC w A' (flat2 m)) (hl : l.length ≤ 1000000) :
    Calls Try.prog 31 #[.slice A l.length c, .slice A' m.length c'] w fun e w' => e = .returned (.bool (decide (l = m))) ∧ Only [] w w' := by
  by_cases hlen : l.length = m.length
  · have HL := Lib.hid hlr
    have HM := Lib.hid hmr
    have HLN := Lib.hid hlen
    rw [← hlen]
    clear hlr hmr
    obtain ⟨n, hn⟩ : ∃ n, l.length = n := ⟨_, rfl⟩
    rw [hn] at hl hlen ⊢
    have hlen2 := Lib.hid (And.intro hn hlen.symm)
    clear hn hlen
    have e0 : ((n : Int) != (n : Int)) = false := by simp
    go_enter Try.func31, Try.ntmps31
    go_wp2_with (fail)
    go_loopw [5] (fun u wr => ∃ (i : Nat), u = .int .i64 i ∧ i ≤ n ∧ Hid (l.take i = m.take i) ∧ Only [] w wr) (fun u _ => n - (intOf u).toNat)
    case atStart => exact ⟨0, rfl, Nat.zero_le _, Lib.hid rfl, Only.refl _ _⟩
    case round =>
      obtain ⟨i, rfl, hi, HE, ho⟩ := hrel
      by_cases hlt : i < n
      · obtain ⟨x, hx⟩ := at_some (L := l) (i := i) (by rw [hlen2.out.1]; exact hlt)
        obtain ⟨y, hy⟩ := at_some (L := m) (i := i) (by rw [hlen2.out.2]; exact hlt)
        obtain ⟨p, po, rfl, pl, c0, c1⟩ := rowJ (HL.out.only ho) hx
        obtain ⟨q, qo, rfl, ql, d0, d1⟩ := rowJ (HM.out.only ho) hy
        have iz0 : (0 : Int) ≤ (i : Int) := by omega
        have iz1 : (i : Int) < (n : Int) := by omega
        have HO := Lib.hid ho
        have hq := fun W => neq_49 x.1 x.2 y.1 y.2 W
        clear ho
        by_cases hxy : x = y
        · have HN := Lib.hid (show l.take (i + 1) = m.take (i + 1) by rw [take_succ_of hx, take_succ_of hy, HE.out, hxy])
          have hd : (!decide (x.1 = y.1 ∧ x.2 = y.2)) = false := by rw [hxy]; simp
          simp only [hd] at hq
          clear hxy hx hy hd
          go_wp2_with (fail)
          go_quiet (fail)
          generalize hW : wr.drewN _ = W1
          have HO1 := Lib.hid (show Only [] w W1 by rw [← hW]; exact HO.out.drewN _)
          clear hW
          go_wp2_with (fail)
          go_roundw
          case rel => exact ⟨i + 1, by go_num, by omega, HN, HO1.out⟩
          case measure => simp [intOf]; omega
        · have HN := Lib.hid (show l ≠ m from fun h => hxy (by rw [h] at hx; rw [hx] at hy; exact Option.some.inj hy))
          have hd : (!decide (x.1 = y.1 ∧ x.2 = y.2)) = true := by
            have : ¬ (x.1 = y.1 ∧ x.2 = y.2) := fun h => hxy (Prod.ext h.1 h.2)
            rw [decide_eq_false this]; rfl
          simp only [hd] at hq
          clear hxy hx hy hd
          go_wp2_with (fail)
          go_quiet (fail)
          generalize hW : wr.drewN _ = W1
          have HO1 := Lib.hid (show Only [] w W1 by rw [← hW]; exact HO.out.drewN _)
          clear hW
          go_wp2_with (fail)
          go_ret
          exact ⟨by rw [decide_eq_false HN.out]; rfl, HO1.out⟩
      · have hie : i = n := by omega
        have HN := Lib.hid (show l = m by
          have h := HE.out
          rw [hie, List.take_of_length_le (by rw [hlen2.out.1]; exact Nat.le_refl _), List.take_of_length_le (by rw [hlen2.out.2]; exact Nat.le_refl _)] at h
          exact h)
        have iz1 : ¬ (i : Int) < (n : Int) := by omega
        have HO := Lib.hid ho
        clear ho hie
        go_wp2_with (fail)
        go_ret
        exact ⟨by rw [decide_eq_true HN.out]; rfl, HO.out⟩
  · have HN := Lib.hid (show l ≠ m from fun h => hlen (by rw [h]))
    have e0 : ((l.length : Int) != (m.length : Int)) = true := by simp; omega
    clear hlr hmr
    go_enter Try.func31, Try.ntmps31
    go_wp2_with (fail)
    go_ret
    exact ⟨by rw [decide_eq_false HN.out]; rfl, Only.refl _ _⟩
theorem even_any (x : Int) (w : World) : Calls Try.prog 17 #[.int .i64 x] w fun e w' => e = .returned (.bool (x.tmod 2 == 0)) ∧ Only [] w w' := by
  go_enter Try.func17, Try.ntmps17
  go_wp2_with (fail)
  go_ret
  exact ⟨rfl, Only.refl _ _⟩
end Go.Proofs.Ytpedlapemgjgaaa
