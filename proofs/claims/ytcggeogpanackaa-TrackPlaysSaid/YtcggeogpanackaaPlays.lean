/- TrackPlays: the law's own walk. -/
import Derived.Test.YtcggeogpanackaaOpenActs
import Derived.Test.YtcggeogpanackaaParts
import Derived.Test.YtcggeogpanackaaRPut
import Derived.Test.YtcggeogpanackaaFrees1
import Derived.Test.YtcggeogpanackaaSet
namespace Go.Proofs.Ytcggeogpanackaa
open Go.RowKit Go.Kx
set_option maxRecDepth 100000

theorem _root_.Go.Kx.Blk.facts5 {w : World} {g : Nat} {t : TypeId} {a b c d e : Value} (h : Blk w g t #[a, b, c, d, e]) : w.cell? ⟨g, 0, none⟩ = some a ∧ w.cell? ⟨g, 1, none⟩ = some b ∧ w.cell? ⟨g, 2, none⟩ = some c ∧ w.cell? ⟨g, 3, none⟩ = some d ∧ w.cell? ⟨g, 4, none⟩ = some e ∧ g < w.heap.size :=
  ⟨by simpa using h.cell 0, by simpa using h.cell 1, by simpa using h.cell 2, by simpa using h.cell 3, by simpa using h.cell 4, h.lt⟩
theorem Tri3.keepS {B : Nat} {w w' : World} {A1 A2 A3 : Option Addr} {c1 c2 c3 : Nat} {L1 L2 L3 : List En} {S : List Nat} (h : Tri3 B w A1 A2 A3 c1 c2 c3 L1 L2 L3) (o : Only S w w') (hS : ∀ {base n : Nat} {v : Value} {xs : List Value}, w.ownsRow base 45 4 v n xs → ∀ b, v.ownBlock = some b → b ∉ S) : Tri3 B w' A1 A2 A3 c1 c2 c3 L1 L2 L3 :=
  ⟨ownsRow_only o h.o1 (hS h.o1), ownsRow_only o h.o2 (hS h.o2), ownsRow_only o h.o3 (hS h.o3), h.n12, h.n13, h.n23⟩
theorem own_keepR {w w' : World} {base n : Nat} {v : Value} {xs : List Value} {v' : Value} (h : w.ownsRow base 45 4 v n xs) (o : Only v'.ownBlock.toList w w') (hne : ∀ b, v.ownBlock = some b → v'.ownBlock ≠ some b) : w'.ownsRow base 45 4 v n xs :=
  ownsRow_only o h (fun b hb k => hne b hb (by simpa using k))
set_option maxHeartbeats 4000000 in
theorem plays_few {room : Int} {A : Option Addr} {cap : Nat} {L : List Ac} {w : World} (hL : Acs w A L) (hl : L.length ≤ 200) (hr1 : 1 ≤ room) (hr2 : room ≤ 1048576) :
    Calls Try.prog 6 #[.int .i64 room, .slice A L.length cap] w fun e w' => e = .returned (.bool true) ∧ Only [] w w' := by
  have hg : decide ((200 : Int) < (L.length : Int)) = false := by simp; omega
  have hd1 : decide (room < 1) = false := by simp; omega
  have hd2 : decide (1048576 < room) = false := by simp; omega
  have HL := Lib.hid hL
  clear hL
  go_enter Try.func6, Try.ntmps6
  go_wp2_with (fail)
  refine (awake_any _).mono ?_
  rintro e w4 ⟨rfl, o4⟩
  have hs4 := o4.size
  have HO4 := Lib.hid o4
  clear o4
  go_wp2_with (fail)
  refine (new_any (room := room) hr1 hr2 w4 (B := w4.heap.size) (Nat.le_refl _)).mono ?_
  rintro e w5 ⟨rfl, T5, o5⟩
  have HT := Lib.hid T5
  have HO5 := Lib.hid (HO4.out.trans o5 (by simp))
  obtain ⟨g, hgd⟩ : ∃ g, w4.heap.size = g := ⟨_, rfl⟩
  rw [hgd] at HT ⊢
  have hgl : w.heap.size ≤ g := by omega
  clear T5 o5 HO4 hs4 hgd
  go_wp2_with (fail)
  go_loopw [7, 8] (fun v i wr => ∃ (k : Nat) (A1 : Option Addr) (c1 : Nat) (E : List En) (AP : Option Addr) (cP : Nat), i = .int .i64 k ∧ v = .slice AP E.length cP ∧ k ≤ L.length ∧ E.length ≤ k ∧ Trk E ∧ TB g wr g room E A1 c1 ∧ wr.ownsRow g 45 4 (.slice AP E.length cP) E.length (flat4 E) ∧ Only [] w wr) (fun _ i _ => L.length - (intOf i).toNat)
  case atStart => exact ⟨0, none, 0, [], none, 0, rfl, rfl, Nat.zero_le _, Nat.le_refl _, Trk.nil, HT.out, World.ownsRow_nil _ _ _ _, HO5.out⟩
  case round =>
    clear HT HO5
    obtain ⟨k, A1, c1, E, AP, cP, rfl, rfl, hk, hE, hTr, hT, hP, hO⟩ := hrel
    by_cases hlt : k < L.length
    · obtain ⟨⟨hd, os, ox⟩, b1, o1, hA, hb, c0, c1', c2, c3, c4⟩ := (HL.out.only hO) k L[k] (List.getElem?_eq_getElem hlt)
      generalize L[k] = q at hd os ox c0 c1' c2 c3 c4
      obtain ⟨d, s, x⟩ := q
      dsimp only at hd os ox c0 c1' c2 c3 c4
      subst hA
      have hE2 : E.length ≤ 200 := by omega
      obtain ⟨W6, hW6⟩ : ∃ W6, wr.alloc (.cells #[.int .u8 d, .int .i64 s.1.1, .int .i64 s.1.2, .int .i64 s.2, .int .i64 x] 57) = W6 := ⟨_, rfl⟩
      have xb : Blk W6 wr.heap.size 57 #[.int .u8 d, .int .i64 s.1.1, .int .i64 s.1.2, .int .i64 s.2, .int .i64 x] := by rw [← hW6]; exact Blk.new _ _ _
      have o6 : Only [] wr W6 := by rw [← hW6]; exact (Only.refl _ _).alloc _
      obtain ⟨x0, x1, x2, x3, x4, xl⟩ := xb.facts5
      have HT := Lib.hid (hT.keep o6)
      have HTr := Lib.hid hTr
      have P6 : W6.ownsRow g 45 4 (.slice AP E.length cP) E.length (flat4 E) := ownsRow_only o6 hP (fun _ _ => by simp)
      have HP := Lib.hid P6
      have HPL := Lib.hid (show ∀ p : Addr, AP = some p → p.block < W6.heap.size from fun p hp => (own_lt' P6 p hp).1)
      have HO := Lib.hid (hO.trans o6 (by simp))
      have HX := Lib.hid xb
      have hpt := parts_any (own_row4 rfl P6) rfl (by omega) (fun e he => (hTr.ok e he).1) os (c := cP)
      have hgw : g ≤ wr.heap.size := Nat.le_of_lt hT.blk.lt
      have hxg : g < wr.heap.size := hT.blk.lt
      clear hT hTr hP hO xb o6 P6
      go_wp2_with (fail)
      refine hpt.mono ?_
      clear hpt
      rintro e w7 ⟨B1, B2, B3, d1, d2, d3, rfl, H3, o7⟩
      have HT7 := Lib.hid (HT.out.keep o7)
      have HP7 := Lib.hid (ownsRow_only o7 HP.out (fun _ _ => by simp) : w7.ownsRow g 45 4 (.slice AP E.length cP) E.length (flat4 E))
      have HO7 := Lib.hid (HO.out.trans o7 (by simp))
      have X7 := o7.blk HX.out (by simp)
      have HX7 := Lib.hid X7
      have H37 := Lib.hid H3
      have hw6 : g ≤ W6.heap.size := by omega
      have hs7 := o7.size
      clear x0 x1 x2 x3 x4 xl HT HP HO HX o7 H3
      obtain ⟨x0, x1, x2, x3, x4, xl⟩ := X7.facts5
      clear X7
      go_wp2_with (fail)
      refine (refstr os rfl _).mono ?_
      rintro e w8 ⟨rfl, o8⟩
      have HT8 := Lib.hid (HT7.out.keep o8)
      have HP8 := Lib.hid (ownsRow_only o8 HP7.out (fun _ _ => by simp) : w8.ownsRow g 45 4 (.slice AP E.length cP) E.length (flat4 E))
      have HO8 := Lib.hid (HO7.out.trans o8 (by simp))
      have X8 := o8.blk HX7.out (by simp)
      have HX8 := Lib.hid X8
      have H38 := Lib.hid (H37.out.keep o8)
      have hs8 := o8.size
      clear x0 x1 x2 x3 x4 xl HT7 HP7 HO7 HX7 H37 o8
      obtain ⟨x0, x1, x2, x3, x4, xl⟩ := X8.facts5
      clear X8 c0 c1' c2 c3 c4
      rcases (show d % 7 = 0 ∨ d % 7 = 1 ∨ d % 7 = 2 ∨ d % 7 = 3 ∨ d % 7 = 4 ∨ d % 7 = 5 ∨ d % 7 = 6 by omega) with h7 | h7 | h7 | h7 | h7 | h7 | h7
      · as_aux_lemma =>
        have hrp := rput_any (x := x) (room := room) HP8.out rfl (Nat.le_of_lt HT8.out.blk.lt) HTr.out os (by omega)
        go_wp2_with (fail)
        refine hrp.mono ?_
        clear hrp
        rintro e w9 ⟨A4, c4, rfl, P9, o9⟩
        have HT9 := Lib.hid (HT8.out.keep o9)
        have HP9 := Lib.hid P9
        have HO9 := Lib.hid (HO8.out.trans o9 (by simp))
        have X9 := o9.blk HX8.out (by simp)
        have HX9 := Lib.hid X9
        clear x0 x1 x2 x3 x4 xl HT8 HP8 HO8 HX8 H38 P9 o9
        obtain ⟨x0, x1, x2, x3, x4, xl⟩ := X9.facts5
        clear X9
        go_wp2_with (fail)
        refine wp_region_held_drew (S := (fun w' => w'.cell? ⟨wr.heap.size, 1, none⟩ = some (.int .i64 s.1.1) ∧ w'.cell? ⟨wr.heap.size, 2, none⟩ = some (.int .i64 s.1.2) ∧ w'.cell? ⟨wr.heap.size, 3, none⟩ = some (.int .i64 s.2) ∧ w'.cell? ⟨wr.heap.size, 4, none⟩ = some (.int .i64 x))) (by kernel_rfl) ?_ (fun hHeld => ?_)
        · (refine ⟨?_, ?_, ?_, ?_⟩ <;> (go_simp; done))
        refine wpAnyH_take (i := 0) (v := ?_) rfl (by kernel_rfl) (by kernel_rfl) (by kernel_rfl) (fun _ _ _ h => h) (Or.inl ⟨by kernel_rfl, ?_⟩) hHeld ?_
        rotate_left
        · (intro w hSw; (try dsimp only at hSw); go_simp; try with_reducible rfl)
        change wpAnyH _ _ _ _ _ _ _ (Act.put _ (some 89) _) _
        simp only [Act.put, List.setIfInBounds_toArray, List.set_cons_zero, List.set_cons_succ]
        refine wpAnyH_take (i := 1) (v := ?_) rfl (by kernel_rfl) (by kernel_rfl) (by kernel_rfl) (fun _ _ _ h => h) (Or.inl ⟨by kernel_rfl, ?_⟩) hHeld ?_
        rotate_left
        · (intro w hSw; (try dsimp only at hSw); go_simp; try with_reducible rfl)
        change wpAnyH _ _ _ _ _ _ _ (Act.put _ (some 90) _) _
        simp only [Act.put, List.setIfInBounds_toArray, List.set_cons_zero, List.set_cons_succ]
        refine wpAnyH_take (i := 2) (v := ?_) rfl (by kernel_rfl) (by kernel_rfl) (by kernel_rfl) (fun _ _ _ h => h) (Or.inl ⟨by kernel_rfl, ?_⟩) hHeld ?_
        rotate_left
        · (intro w hSw; (try dsimp only at hSw); go_simp; try with_reducible rfl)
        change wpAnyH _ _ _ _ _ _ _ (Act.put _ (some 91) _) _
        simp only [Act.put, List.setIfInBounds_toArray, List.set_cons_zero, List.set_cons_succ]
        refine wpAnyH_take (i := 4) (v := ?_) rfl (by kernel_rfl) (by kernel_rfl) (by kernel_rfl) (fun _ _ _ h => h) (Or.inl ⟨by kernel_rfl, ?_⟩) hHeld ?_
        rotate_left
        · (intro w hSw; (try dsimp only at hSw); go_simp; try with_reducible rfl)
        change wpAnyH _ _ _ _ _ _ _ (Act.put _ (some 93) _) _
        simp only [Act.put, List.setIfInBounds_toArray, List.set_cons_zero, List.set_cons_succ]
        refine wpAnyH_take (i := 5) (v := ?_) rfl (by kernel_rfl) (by kernel_rfl) (by kernel_rfl) (fun _ _ _ h => h) (Or.inl ⟨by kernel_rfl, ?_⟩) hHeld ?_
        rotate_left
        · (intro w hSw; (try dsimp only at hSw); go_simp; try with_reducible rfl)
        change wpAnyH _ _ _ _ _ _ _ (Act.put _ (some 94) _) _
        simp only [Act.put, List.setIfInBounds_toArray, List.set_cons_zero, List.set_cons_succ]
        refine wpAnyH_take (i := 7) (v := ?_) rfl (by kernel_rfl) (by kernel_rfl) (by kernel_rfl) (fun _ _ _ h => h) (Or.inl ⟨by kernel_rfl, ?_⟩) hHeld ?_
        rotate_left
        · (intro w hSw; (try dsimp only at hSw); go_simp; try with_reducible rfl)
        change wpAnyH _ _ _ _ _ _ _ (Act.put _ (some 96) _) _
        simp only [Act.put, List.setIfInBounds_toArray, List.set_cons_zero, List.set_cons_succ]
        refine wpAnyH_ready (rs := [3]) (by kernel_rfl) (by simp) ?_
        refine AllReadyH.cons rfl (fun K hK => ?_) AllReadyH.nil
        go_simp
        refine (of_any s _).mono ?_
        rintro e w10 ⟨rfl, o10⟩
        have oo10 : Only [] w9 w10 := (Only.refl [] w9).drew.trans o10 (by simp)
        have HX10 := Lib.hid (oo10.blk HX9.out (by simp))
        refine hK.out _ _ (by obtain ⟨-, a1, a2, a3, a4, -⟩ := HX10.out.facts5; exact ⟨a1, a2, a3, a4⟩) (fun hHeld2 => ?_)
        clear hK K hHeld
        have hHeld := hHeld2; clear hHeld2
        try simp only [Act.put, List.setIfInBounds_toArray, List.set_cons_zero, List.set_cons_succ]
        refine wpAnyH_ready (rs := [6]) (by kernel_rfl) (by simp) ?_
        refine AllReadyH.cons rfl (fun K hK => ?_) AllReadyH.nil
        go_simp
        have T10 := HT9.out.keep oo10
        refine (put_any (s := s) (x := x) T10 HTr.out os (by omega) (Nat.le_of_lt T10.blk.lt)).mono ?_
        rintro e w11 ⟨rfl, A5, c5, T11, o11, -⟩
        have P10 : w10.ownsRow g 45 4 (.slice A4 (putL E room s x).length c4) (putL E room s x).length (flat4 (putL E room s x)) := ownsRow_only oo10 HP9.out (fun _ _ => by simp)
        have HP11 := Lib.hid (ownsRow_only o11 P10 (T10.own_other P10 (by decide) (by decide)))
        have HX11 := Lib.hid (o11.blk HX10.out (T10.blk_other HX10.out (by decide) (by decide)))
        have HO11 := Lib.hid ((HO9.out.trans oo10 (by simp)).trans o11 (fun y hy => .inr (by have := T10.above y hy; omega)))
        have HT11 := Lib.hid T11
        clear T10 T11 P10 o10 o11 oo10 HX9 HX10 HT9 HP9 HO9
        refine hK.out _ _ (by obtain ⟨-, a1, a2, a3, a4, -⟩ := HX11.out.facts5; exact ⟨a1, a2, a3, a4⟩) (fun hHeld2 => ?_)
        clear hK K hHeld
        have hHeld := hHeld2; clear hHeld2
        try simp only [Act.put, List.setIfInBounds_toArray, List.set_cons_zero, List.set_cons_succ]
        refine wpAnyH_take (i := 8) (v := ?_) rfl (by kernel_rfl) (by kernel_rfl) (by kernel_rfl) (fun _ _ _ h => h) (Or.inl ⟨by kernel_rfl, ?_⟩) hHeld ?_
        rotate_left
        · (intro w hSw; (try dsimp only at hSw); go_simp; try with_reducible rfl)
        change wpAnyH _ _ _ _ _ _ _ (Act.put _ (some 97) _) _
        simp only [Act.put, List.setIfInBounds_toArray, List.set_cons_zero, List.set_cons_succ]
        refine wpAnyH_take (i := 9) (v := ?_) rfl (by kernel_rfl) (by kernel_rfl) (by kernel_rfl) (fun _ _ _ h => h) (Or.inl ⟨by kernel_rfl, ?_⟩) hHeld ?_
        rotate_left
        · (intro w hSw; (try dsimp only at hSw); go_simp; try with_reducible rfl)
        change wpAnyH _ _ _ _ _ _ _ (Act.put _ (some 14) _) _
        simp only [Act.put, List.setIfInBounds_toArray, List.set_cons_zero, List.set_cons_succ]
        refine wpAnyH_done (by kernel_rfl) ?_ _
        have hpl2 := put_len_le E room s x
        have HTr2 := Lib.hid (HTr.out.put os (x := x) ox room)
        generalize putL E room s x = E2 at HP11 HT11 hpl2 HTr2 ⊢
        clear x0 x1 x2 x3 x4 xl hHeld
        go_wp2_with (fail)
        refine (len_any HT11.out).mono ?_
        rintro e wz ⟨rfl, rfl⟩
        go_wp2_with (fail)
        go_roundw
        case rel => exact ⟨k + 1, A5, c5, E2, A4, c4, by go_num, rfl, by omega, by omega, HTr2.out, HT11.out, HP11.out, HO11.out⟩
        case measure => simp [intOf]; omega
      · as_aux_lemma =>
        have hrp := rput_any (x := x) (room := room) HP8.out rfl (Nat.le_of_lt HT8.out.blk.lt) HTr.out os (by omega)
        go_wp2_with (fail)
        refine hrp.mono ?_
        clear hrp
        rintro e w9 ⟨A4, c4, rfl, P9, o9⟩
        have HT9 := Lib.hid (HT8.out.keep o9)
        have HP9 := Lib.hid P9
        have HO9 := Lib.hid (HO8.out.trans o9 (by simp))
        have X9 := o9.blk HX8.out (by simp)
        have HX9 := Lib.hid X9
        clear x0 x1 x2 x3 x4 xl HT8 HP8 HO8 HX8 H38 P9 o9
        obtain ⟨x0, x1, x2, x3, x4, xl⟩ := X9.facts5
        clear X9
        go_wp2_with (fail)
        refine wp_region_held_drew (S := (fun w' => w'.cell? ⟨wr.heap.size, 1, none⟩ = some (.int .i64 s.1.1) ∧ w'.cell? ⟨wr.heap.size, 2, none⟩ = some (.int .i64 s.1.2) ∧ w'.cell? ⟨wr.heap.size, 3, none⟩ = some (.int .i64 s.2) ∧ w'.cell? ⟨wr.heap.size, 4, none⟩ = some (.int .i64 x))) (by kernel_rfl) ?_ (fun hHeld => ?_)
        · (refine ⟨?_, ?_, ?_, ?_⟩ <;> (go_simp; done))
        refine wpAnyH_take (i := 0) (v := ?_) rfl (by kernel_rfl) (by kernel_rfl) (by kernel_rfl) (fun _ _ _ h => h) (Or.inl ⟨by kernel_rfl, ?_⟩) hHeld ?_
        rotate_left
        · (intro w hSw; (try dsimp only at hSw); go_simp; try with_reducible rfl)
        change wpAnyH _ _ _ _ _ _ _ (Act.put _ (some 89) _) _
        simp only [Act.put, List.setIfInBounds_toArray, List.set_cons_zero, List.set_cons_succ]
        refine wpAnyH_take (i := 1) (v := ?_) rfl (by kernel_rfl) (by kernel_rfl) (by kernel_rfl) (fun _ _ _ h => h) (Or.inl ⟨by kernel_rfl, ?_⟩) hHeld ?_
        rotate_left
        · (intro w hSw; (try dsimp only at hSw); go_simp; try with_reducible rfl)
        change wpAnyH _ _ _ _ _ _ _ (Act.put _ (some 90) _) _
        simp only [Act.put, List.setIfInBounds_toArray, List.set_cons_zero, List.set_cons_succ]
        refine wpAnyH_take (i := 2) (v := ?_) rfl (by kernel_rfl) (by kernel_rfl) (by kernel_rfl) (fun _ _ _ h => h) (Or.inl ⟨by kernel_rfl, ?_⟩) hHeld ?_
        rotate_left
        · (intro w hSw; (try dsimp only at hSw); go_simp; try with_reducible rfl)
        change wpAnyH _ _ _ _ _ _ _ (Act.put _ (some 91) _) _
        simp only [Act.put, List.setIfInBounds_toArray, List.set_cons_zero, List.set_cons_succ]
        refine wpAnyH_take (i := 4) (v := ?_) rfl (by kernel_rfl) (by kernel_rfl) (by kernel_rfl) (fun _ _ _ h => h) (Or.inl ⟨by kernel_rfl, ?_⟩) hHeld ?_
        rotate_left
        · (intro w hSw; (try dsimp only at hSw); go_simp; try with_reducible rfl)
        change wpAnyH _ _ _ _ _ _ _ (Act.put _ (some 93) _) _
        simp only [Act.put, List.setIfInBounds_toArray, List.set_cons_zero, List.set_cons_succ]
        refine wpAnyH_take (i := 5) (v := ?_) rfl (by kernel_rfl) (by kernel_rfl) (by kernel_rfl) (fun _ _ _ h => h) (Or.inl ⟨by kernel_rfl, ?_⟩) hHeld ?_
        rotate_left
        · (intro w hSw; (try dsimp only at hSw); go_simp; try with_reducible rfl)
        change wpAnyH _ _ _ _ _ _ _ (Act.put _ (some 94) _) _
        simp only [Act.put, List.setIfInBounds_toArray, List.set_cons_zero, List.set_cons_succ]
        refine wpAnyH_take (i := 7) (v := ?_) rfl (by kernel_rfl) (by kernel_rfl) (by kernel_rfl) (fun _ _ _ h => h) (Or.inl ⟨by kernel_rfl, ?_⟩) hHeld ?_
        rotate_left
        · (intro w hSw; (try dsimp only at hSw); go_simp; try with_reducible rfl)
        change wpAnyH _ _ _ _ _ _ _ (Act.put _ (some 96) _) _
        simp only [Act.put, List.setIfInBounds_toArray, List.set_cons_zero, List.set_cons_succ]
        refine wpAnyH_ready (rs := [3]) (by kernel_rfl) (by simp) ?_
        refine AllReadyH.cons rfl (fun K hK => ?_) AllReadyH.nil
        go_simp
        refine (of_any s _).mono ?_
        rintro e w10 ⟨rfl, o10⟩
        have oo10 : Only [] w9 w10 := (Only.refl [] w9).drew.trans o10 (by simp)
        have HX10 := Lib.hid (oo10.blk HX9.out (by simp))
        refine hK.out _ _ (by obtain ⟨-, a1, a2, a3, a4, -⟩ := HX10.out.facts5; exact ⟨a1, a2, a3, a4⟩) (fun hHeld2 => ?_)
        clear hK K hHeld
        have hHeld := hHeld2; clear hHeld2
        try simp only [Act.put, List.setIfInBounds_toArray, List.set_cons_zero, List.set_cons_succ]
        refine wpAnyH_ready (rs := [6]) (by kernel_rfl) (by simp) ?_
        refine AllReadyH.cons rfl (fun K hK => ?_) AllReadyH.nil
        go_simp
        have T10 := HT9.out.keep oo10
        refine (put_any (s := s) (x := x) T10 HTr.out os (by omega) (Nat.le_of_lt T10.blk.lt)).mono ?_
        rintro e w11 ⟨rfl, A5, c5, T11, o11, -⟩
        have P10 : w10.ownsRow g 45 4 (.slice A4 (putL E room s x).length c4) (putL E room s x).length (flat4 (putL E room s x)) := ownsRow_only oo10 HP9.out (fun _ _ => by simp)
        have HP11 := Lib.hid (ownsRow_only o11 P10 (T10.own_other P10 (by decide) (by decide)))
        have HX11 := Lib.hid (o11.blk HX10.out (T10.blk_other HX10.out (by decide) (by decide)))
        have HO11 := Lib.hid ((HO9.out.trans oo10 (by simp)).trans o11 (fun y hy => .inr (by have := T10.above y hy; omega)))
        have HT11 := Lib.hid T11
        clear T10 T11 P10 o10 o11 oo10 HX9 HX10 HT9 HP9 HO9
        refine hK.out _ _ (by obtain ⟨-, a1, a2, a3, a4, -⟩ := HX11.out.facts5; exact ⟨a1, a2, a3, a4⟩) (fun hHeld2 => ?_)
        clear hK K hHeld
        have hHeld := hHeld2; clear hHeld2
        try simp only [Act.put, List.setIfInBounds_toArray, List.set_cons_zero, List.set_cons_succ]
        refine wpAnyH_take (i := 8) (v := ?_) rfl (by kernel_rfl) (by kernel_rfl) (by kernel_rfl) (fun _ _ _ h => h) (Or.inl ⟨by kernel_rfl, ?_⟩) hHeld ?_
        rotate_left
        · (intro w hSw; (try dsimp only at hSw); go_simp; try with_reducible rfl)
        change wpAnyH _ _ _ _ _ _ _ (Act.put _ (some 97) _) _
        simp only [Act.put, List.setIfInBounds_toArray, List.set_cons_zero, List.set_cons_succ]
        refine wpAnyH_take (i := 9) (v := ?_) rfl (by kernel_rfl) (by kernel_rfl) (by kernel_rfl) (fun _ _ _ h => h) (Or.inl ⟨by kernel_rfl, ?_⟩) hHeld ?_
        rotate_left
        · (intro w hSw; (try dsimp only at hSw); go_simp; try with_reducible rfl)
        change wpAnyH _ _ _ _ _ _ _ (Act.put _ (some 14) _) _
        simp only [Act.put, List.setIfInBounds_toArray, List.set_cons_zero, List.set_cons_succ]
        refine wpAnyH_done (by kernel_rfl) ?_ _
        have hpl2 := put_len_le E room s x
        have HTr2 := Lib.hid (HTr.out.put os (x := x) ox room)
        generalize putL E room s x = E2 at HP11 HT11 hpl2 HTr2 ⊢
        clear x0 x1 x2 x3 x4 xl hHeld
        go_wp2_with (fail)
        refine (len_any HT11.out).mono ?_
        rintro e wz ⟨rfl, rfl⟩
        go_wp2_with (fail)
        go_roundw
        case rel => exact ⟨k + 1, A5, c5, E2, A4, c4, by go_num, rfl, by omega, by omega, HTr2.out, HT11.out, HP11.out, HO11.out⟩
        case measure => simp [intOf]; omega
      · as_aux_lemma =>
        have hrp := rput_any (x := x) (room := room) HP8.out rfl (Nat.le_of_lt HT8.out.blk.lt) HTr.out os (by omega)
        go_wp2_with (fail)
        refine hrp.mono ?_
        clear hrp
        rintro e w9 ⟨A4, c4, rfl, P9, o9⟩
        have HT9 := Lib.hid (HT8.out.keep o9)
        have HP9 := Lib.hid P9
        have HO9 := Lib.hid (HO8.out.trans o9 (by simp))
        have X9 := o9.blk HX8.out (by simp)
        have HX9 := Lib.hid X9
        clear x0 x1 x2 x3 x4 xl HT8 HP8 HO8 HX8 H38 P9 o9
        obtain ⟨x0, x1, x2, x3, x4, xl⟩ := X9.facts5
        clear X9
        go_wp2_with (fail)
        refine wp_region_held_drew (S := (fun w' => w'.cell? ⟨wr.heap.size, 1, none⟩ = some (.int .i64 s.1.1) ∧ w'.cell? ⟨wr.heap.size, 2, none⟩ = some (.int .i64 s.1.2) ∧ w'.cell? ⟨wr.heap.size, 3, none⟩ = some (.int .i64 s.2) ∧ w'.cell? ⟨wr.heap.size, 4, none⟩ = some (.int .i64 x))) (by kernel_rfl) ?_ (fun hHeld => ?_)
        · (refine ⟨?_, ?_, ?_, ?_⟩ <;> (go_simp; done))
        refine wpAnyH_take (i := 0) (v := ?_) rfl (by kernel_rfl) (by kernel_rfl) (by kernel_rfl) (fun _ _ _ h => h) (Or.inl ⟨by kernel_rfl, ?_⟩) hHeld ?_
        rotate_left
        · (intro w hSw; (try dsimp only at hSw); go_simp; try with_reducible rfl)
        change wpAnyH _ _ _ _ _ _ _ (Act.put _ (some 89) _) _
        simp only [Act.put, List.setIfInBounds_toArray, List.set_cons_zero, List.set_cons_succ]
        refine wpAnyH_take (i := 1) (v := ?_) rfl (by kernel_rfl) (by kernel_rfl) (by kernel_rfl) (fun _ _ _ h => h) (Or.inl ⟨by kernel_rfl, ?_⟩) hHeld ?_
        rotate_left
        · (intro w hSw; (try dsimp only at hSw); go_simp; try with_reducible rfl)
        change wpAnyH _ _ _ _ _ _ _ (Act.put _ (some 90) _) _
        simp only [Act.put, List.setIfInBounds_toArray, List.set_cons_zero, List.set_cons_succ]
        refine wpAnyH_take (i := 2) (v := ?_) rfl (by kernel_rfl) (by kernel_rfl) (by kernel_rfl) (fun _ _ _ h => h) (Or.inl ⟨by kernel_rfl, ?_⟩) hHeld ?_
        rotate_left
        · (intro w hSw; (try dsimp only at hSw); go_simp; try with_reducible rfl)
        change wpAnyH _ _ _ _ _ _ _ (Act.put _ (some 91) _) _
        simp only [Act.put, List.setIfInBounds_toArray, List.set_cons_zero, List.set_cons_succ]
        refine wpAnyH_take (i := 4) (v := ?_) rfl (by kernel_rfl) (by kernel_rfl) (by kernel_rfl) (fun _ _ _ h => h) (Or.inl ⟨by kernel_rfl, ?_⟩) hHeld ?_
        rotate_left
        · (intro w hSw; (try dsimp only at hSw); go_simp; try with_reducible rfl)
        change wpAnyH _ _ _ _ _ _ _ (Act.put _ (some 93) _) _
        simp only [Act.put, List.setIfInBounds_toArray, List.set_cons_zero, List.set_cons_succ]
        refine wpAnyH_take (i := 5) (v := ?_) rfl (by kernel_rfl) (by kernel_rfl) (by kernel_rfl) (fun _ _ _ h => h) (Or.inl ⟨by kernel_rfl, ?_⟩) hHeld ?_
        rotate_left
        · (intro w hSw; (try dsimp only at hSw); go_simp; try with_reducible rfl)
        change wpAnyH _ _ _ _ _ _ _ (Act.put _ (some 94) _) _
        simp only [Act.put, List.setIfInBounds_toArray, List.set_cons_zero, List.set_cons_succ]
        refine wpAnyH_take (i := 7) (v := ?_) rfl (by kernel_rfl) (by kernel_rfl) (by kernel_rfl) (fun _ _ _ h => h) (Or.inl ⟨by kernel_rfl, ?_⟩) hHeld ?_
        rotate_left
        · (intro w hSw; (try dsimp only at hSw); go_simp; try with_reducible rfl)
        change wpAnyH _ _ _ _ _ _ _ (Act.put _ (some 96) _) _
        simp only [Act.put, List.setIfInBounds_toArray, List.set_cons_zero, List.set_cons_succ]
        refine wpAnyH_ready (rs := [3]) (by kernel_rfl) (by simp) ?_
        refine AllReadyH.cons rfl (fun K hK => ?_) AllReadyH.nil
        go_simp
        refine (of_any s _).mono ?_
        rintro e w10 ⟨rfl, o10⟩
        have oo10 : Only [] w9 w10 := (Only.refl [] w9).drew.trans o10 (by simp)
        have HX10 := Lib.hid (oo10.blk HX9.out (by simp))
        refine hK.out _ _ (by obtain ⟨-, a1, a2, a3, a4, -⟩ := HX10.out.facts5; exact ⟨a1, a2, a3, a4⟩) (fun hHeld2 => ?_)
        clear hK K hHeld
        have hHeld := hHeld2; clear hHeld2
        try simp only [Act.put, List.setIfInBounds_toArray, List.set_cons_zero, List.set_cons_succ]
        refine wpAnyH_ready (rs := [6]) (by kernel_rfl) (by simp) ?_
        refine AllReadyH.cons rfl (fun K hK => ?_) AllReadyH.nil
        go_simp
        have T10 := HT9.out.keep oo10
        refine (put_any (s := s) (x := x) T10 HTr.out os (by omega) (Nat.le_of_lt T10.blk.lt)).mono ?_
        rintro e w11 ⟨rfl, A5, c5, T11, o11, -⟩
        have P10 : w10.ownsRow g 45 4 (.slice A4 (putL E room s x).length c4) (putL E room s x).length (flat4 (putL E room s x)) := ownsRow_only oo10 HP9.out (fun _ _ => by simp)
        have HP11 := Lib.hid (ownsRow_only o11 P10 (T10.own_other P10 (by decide) (by decide)))
        have HX11 := Lib.hid (o11.blk HX10.out (T10.blk_other HX10.out (by decide) (by decide)))
        have HO11 := Lib.hid ((HO9.out.trans oo10 (by simp)).trans o11 (fun y hy => .inr (by have := T10.above y hy; omega)))
        have HT11 := Lib.hid T11
        clear T10 T11 P10 o10 o11 oo10 HX9 HX10 HT9 HP9 HO9
        refine hK.out _ _ (by obtain ⟨-, a1, a2, a3, a4, -⟩ := HX11.out.facts5; exact ⟨a1, a2, a3, a4⟩) (fun hHeld2 => ?_)
        clear hK K hHeld
        have hHeld := hHeld2; clear hHeld2
        try simp only [Act.put, List.setIfInBounds_toArray, List.set_cons_zero, List.set_cons_succ]
        refine wpAnyH_take (i := 8) (v := ?_) rfl (by kernel_rfl) (by kernel_rfl) (by kernel_rfl) (fun _ _ _ h => h) (Or.inl ⟨by kernel_rfl, ?_⟩) hHeld ?_
        rotate_left
        · (intro w hSw; (try dsimp only at hSw); go_simp; try with_reducible rfl)
        change wpAnyH _ _ _ _ _ _ _ (Act.put _ (some 97) _) _
        simp only [Act.put, List.setIfInBounds_toArray, List.set_cons_zero, List.set_cons_succ]
        refine wpAnyH_take (i := 9) (v := ?_) rfl (by kernel_rfl) (by kernel_rfl) (by kernel_rfl) (fun _ _ _ h => h) (Or.inl ⟨by kernel_rfl, ?_⟩) hHeld ?_
        rotate_left
        · (intro w hSw; (try dsimp only at hSw); go_simp; try with_reducible rfl)
        change wpAnyH _ _ _ _ _ _ _ (Act.put _ (some 14) _) _
        simp only [Act.put, List.setIfInBounds_toArray, List.set_cons_zero, List.set_cons_succ]
        refine wpAnyH_done (by kernel_rfl) ?_ _
        have hpl2 := put_len_le E room s x
        have HTr2 := Lib.hid (HTr.out.put os (x := x) ox room)
        generalize putL E room s x = E2 at HP11 HT11 hpl2 HTr2 ⊢
        clear x0 x1 x2 x3 x4 xl hHeld
        go_wp2_with (fail)
        refine (len_any HT11.out).mono ?_
        rintro e wz ⟨rfl, rfl⟩
        go_wp2_with (fail)
        go_roundw
        case rel => exact ⟨k + 1, A5, c5, E2, A4, c4, by go_num, rfl, by omega, by omega, HTr2.out, HT11.out, HP11.out, HO11.out⟩
        case measure => simp [intOf]; omega
      · as_aux_lemma =>
        go_wp2_with (fail)
        refine wp_region_held_drew (S := (fun w' => w'.cell? ⟨wr.heap.size, 1, none⟩ = some (.int .i64 s.1.1) ∧ w'.cell? ⟨wr.heap.size, 2, none⟩ = some (.int .i64 s.1.2) ∧ w'.cell? ⟨wr.heap.size, 3, none⟩ = some (.int .i64 s.2) ∧ w'.cell? ⟨wr.heap.size, 4, none⟩ = some (.int .i64 x))) (by kernel_rfl) ?_ (fun hHeld => ?_)
        · (refine ⟨?_, ?_, ?_, ?_⟩ <;> (go_simp; done))
        refine wpAnyH_take (i := 0) (v := ?_) rfl (by kernel_rfl) (by kernel_rfl) (by kernel_rfl) (fun _ _ _ h => h) (Or.inl ⟨by kernel_rfl, ?_⟩) hHeld ?_
        rotate_left
        · (intro w hSw; (try dsimp only at hSw); go_simp; try with_reducible rfl)
        change wpAnyH _ _ _ _ _ _ _ (Act.put _ (some 101) _) _
        simp only [Act.put, List.setIfInBounds_toArray, List.set_cons_zero, List.set_cons_succ]
        refine wpAnyH_take (i := 1) (v := ?_) rfl (by kernel_rfl) (by kernel_rfl) (by kernel_rfl) (fun _ _ _ h => h) (Or.inl ⟨by kernel_rfl, ?_⟩) hHeld ?_
        rotate_left
        · (intro w hSw; (try dsimp only at hSw); go_simp; try with_reducible rfl)
        change wpAnyH _ _ _ _ _ _ _ (Act.put _ (some 102) _) _
        simp only [Act.put, List.setIfInBounds_toArray, List.set_cons_zero, List.set_cons_succ]
        refine wpAnyH_take (i := 2) (v := ?_) rfl (by kernel_rfl) (by kernel_rfl) (by kernel_rfl) (fun _ _ _ h => h) (Or.inl ⟨by kernel_rfl, ?_⟩) hHeld ?_
        rotate_left
        · (intro w hSw; (try dsimp only at hSw); go_simp; try with_reducible rfl)
        change wpAnyH _ _ _ _ _ _ _ (Act.put _ (some 103) _) _
        simp only [Act.put, List.setIfInBounds_toArray, List.set_cons_zero, List.set_cons_succ]
        refine wpAnyH_take (i := 4) (v := ?_) rfl (by kernel_rfl) (by kernel_rfl) (by kernel_rfl) (fun _ _ _ h => h) (Or.inl ⟨by kernel_rfl, ?_⟩) hHeld ?_
        rotate_left
        · (intro w hSw; (try dsimp only at hSw); go_simp; try with_reducible rfl)
        change wpAnyH _ _ _ _ _ _ _ (Act.put _ (some 105) _) _
        simp only [Act.put, List.setIfInBounds_toArray, List.set_cons_zero, List.set_cons_succ]
        refine wpAnyH_take (i := 5) (v := ?_) rfl (by kernel_rfl) (by kernel_rfl) (by kernel_rfl) (fun _ _ _ h => h) (Or.inl ⟨by kernel_rfl, ?_⟩) hHeld ?_
        rotate_left
        · (intro w hSw; (try dsimp only at hSw); go_simp; try with_reducible rfl)
        change wpAnyH _ _ _ _ _ _ _ (Act.put _ (some 106) _) _
        simp only [Act.put, List.setIfInBounds_toArray, List.set_cons_zero, List.set_cons_succ]
        refine wpAnyH_ready (rs := [3]) (by kernel_rfl) (by simp) ?_
        refine AllReadyH.cons rfl (fun K hK => ?_) AllReadyH.nil
        go_simp
        refine (of_any s _).mono ?_
        rintro e w10 ⟨rfl, o10⟩
        have oo10 : Only [] w8 w10 := (Only.refl [] w8).drew.trans o10 (by simp)
        have HX10 := Lib.hid (oo10.blk HX8.out (by simp))
        refine hK.out _ _ (by obtain ⟨-, a1, a2, a3, a4, -⟩ := HX10.out.facts5; exact ⟨a1, a2, a3, a4⟩) (fun hHeld2 => ?_)
        clear hK K hHeld
        have hHeld := hHeld2; clear hHeld2
        try simp only [Act.put, List.setIfInBounds_toArray, List.set_cons_zero, List.set_cons_succ]
        refine wpAnyH_ready (rs := [6]) (by kernel_rfl) (by simp) ?_
        refine AllReadyH.cons rfl (fun K hK => ?_) AllReadyH.nil
        go_simp
        have T10 := HT8.out.keep oo10
        refine (set_any (s := s) (x := x) T10 HTr.out os (by omega)).mono ?_
        rintro e w11 ⟨rfl, T11, o11⟩
        have P10 : w10.ownsRow g 45 4 (.slice AP E.length cP) E.length (flat4 E) := ownsRow_only oo10 HP8.out (fun _ _ => by simp)
        have HP11 := Lib.hid (ownsRow_only o11 P10 (T10.own_other P10 (by decide) (by decide)))
        have HX11 := Lib.hid (o11.blk HX10.out (T10.blk_other HX10.out (by decide) (by decide)))
        have HO11 := Lib.hid ((HO8.out.trans oo10 (by simp)).trans o11 (fun y hy => .inr (by have := T10.above y hy; omega)))
        have H311 := Lib.hid (Tri3.keepS (H38.out.keep oo10) o11 (fun h => T10.own_other h (by decide) (by decide)))
        have HT11 := Lib.hid T11
        have hs11 : w8.heap.size ≤ w11.heap.size := by have := oo10.size; have := o11.size; omega
        clear T10 T11 P10 o10 o11 oo10 HX8 HX10 HT8 HP8 HO8 H38
        refine hK.out _ _ (by obtain ⟨-, a1, a2, a3, a4, -⟩ := HX11.out.facts5; exact ⟨a1, a2, a3, a4⟩) (fun hHeld2 => ?_)
        clear hK K hHeld
        have hHeld := hHeld2; clear hHeld2
        try simp only [Act.put, List.setIfInBounds_toArray, List.set_cons_zero, List.set_cons_succ]
        refine wpAnyH_take (i := 7) (v := ?_) rfl (by kernel_rfl) (by kernel_rfl) (by kernel_rfl) (fun _ _ _ h => h) (Or.inl ⟨by kernel_rfl, ?_⟩) hHeld ?_
        rotate_left
        · (intro w hSw; (try dsimp only at hSw); go_simp; try with_reducible rfl)
        change wpAnyH _ _ _ _ _ _ _ (Act.put _ (some 17) _) _
        simp only [Act.put, List.setIfInBounds_toArray, List.set_cons_zero, List.set_cons_succ]
        refine wpAnyH_done (by kernel_rfl) ?_ _
        clear x0 x1 x2 x3 x4 xl hHeld
        by_cases hf : stR s = true ∧ pbT E s ≠ []
        · have hv : (stR s && !(pbT E s).isEmpty) = true := by
            cases hp : pbT E s with
            | nil => exact absurd hp hf.2
            | cons a l => rw [hf.1]; rfl
          have hse : setT E s x = paT E s ++ [(s, x)] ++ pcT E s := by unfold setT; rw [if_pos hf]
          have hlb : 0 < (pbT E s).length := List.length_pos_iff.2 hf.2
          have hlbd : decide (0 < ((pbT E s).length : Int)) = true := by simp; omega
          have hsf := (set_found HTr.out os hf.1).1 hf.2
          have HTr2 := Lib.hid (hsf.elim fun h1 h2 => HTr.out.set os hf.1 ox h1 h2)
          have hrs := hf.1
          rw [hse] at HTr2
          rw [hse] at HT11
          have ll1 : (paT E s).length ≤ E.length := List.length_filter_le _ _
          have ll2 : (pcT E s).length ≤ E.length := List.length_filter_le _ _
          have hsl : (setT E s x).length = E.length := by
            obtain ⟨h1, h2⟩ := hsf
            rw [set_eq HTr.out os hf.1 h1 h2, List.length_set]
          rw [hse] at hsl
          obtain ⟨g6, cap6, w12, hrun1, T12, o12, hb12⟩ := H311.out.push (s, x) (by omega) (by omega)
          have hnA := HT11.out.own_other H311.out.o1 (by decide) (by decide)
          have oA : ∀ y ∈ B1.toList.map (·.block), y ∉ g :: A1.toList.map (·.block) := fun y hy => by
            rw [List.mem_map] at hy
            obtain ⟨p, hp, rfl⟩ := hy
            exact hnA p.block (by simp at hp; rw [hp]; rfl)
          have T12t := HT11.out.keeps o12 (fun h => oA g h (by simp)) (fun p hp h => oA p.block h (by simp [hp]))
          have h1 := T12.o1
          have e1 : (paT E s ++ [(s, x)]).length = (paT E s).length + 1 := by simp
          rw [e1] at h1
          have hs12 := o12.size
          obtain ⟨A7, c7, w13, hrun2, P13, o13, -⟩ := run_append_row4 (P := Try.prog) 32 Try.underlying32 ref_info rfl h1 (c := d3) (own_row4 rfl T12.o3) rfl (by omega) (by unfold maxLen; omega) (by omega)
          have hno := T12t.own_other h1 (by decide) (by decide)
          have HT13 := Lib.hid (T12t.keeps o13 (fun h => hno g (by simpa using h) (by simp)) (fun p hp h => hno p.block (by simpa using h) (by simp [hp])))
          have hln : (paT E s ++ [(s, x)] ++ pcT E s).length = (paT E s).length + 1 + (pcT E s).length := by simp; omega
          have HP13 := Lib.hid (show w13.ownsRow g 45 4 (.slice A7 (paT E s ++ [(s, x)] ++ pcT E s).length c7) (paT E s ++ [(s, x)] ++ pcT E s).length (flat4 (paT E s ++ [(s, x)] ++ pcT E s)) by rw [hln]; exact own_low P13 (by omega))
          have HO13 := Lib.hid ((HO11.out.trans o12 (fun y hy => .inr (by have := hb12 y hy; omega))).trans o13 (fun y hy => .inr (by have := (h1.lt y (by simpa using hy)).1; omega)))
          have HLN := Lib.hid hln
          have HV := Lib.hid hv
          obtain ⟨x0, x1, x2, x3, x4, xl⟩ := HX11.out.facts5
          rw [hv, hrs]
          go_wp2_with (at_builtin; first | (refine wpList_append_run hrun1 rfl _ _ rfl rfl rfl rfl ?_; clear hrun1) | (refine wpList_append_run hrun2 rfl _ _ rfl rfl rfl rfl ?_; clear hrun2))
          go_wp2_with (fail)
          refine (len_any HT13.out).mono ?_
          rintro e wz ⟨rfl, rfl⟩
          rw [HLN.out]
          go_wp2_with (fail)
          go_roundw
          case rel => exact ⟨k + 1, A1, c1, _, A7, c7, by go_num, by rw [HLN.out], by omega, by omega, HTr2.out, HT13.out, HP13.out, HO13.out⟩
          case measure => simp [intOf]; omega
        · have hv : (stR s && !(pbT E s).isEmpty) = false := by
            cases hr : stR s with
            | false => rfl
            | true =>
              cases hp : pbT E s with
              | nil => rfl
              | cons a l => exact absurd ⟨hr, by rw [hp]; simp⟩ hf
          have hse : setT E s x = E := by unfold setT; rw [if_neg hf]
          rw [hse] at HT11
          rw [hv]
          cases rs : stR s with
          | false =>
            clear hf hv
            go_wp2_with (fail)
            refine (len_any HT11.out).mono ?_
            rintro e wz ⟨rfl, rfl⟩
            go_wp2_with (fail)
            go_roundw
            case rel => exact ⟨k + 1, A1, c1, E, AP, cP, by go_num, rfl, by omega, by omega, HTr.out, HT11.out, HP11.out, HO11.out⟩
            case measure => simp [intOf]; omega
          | true =>
            have hpb : pbT E s = [] := Classical.byContradiction fun h => hf ⟨rs, h⟩
            rw [hpb]
            clear hf hv
            go_wp2_with (fail)
            refine (len_any HT11.out).mono ?_
            rintro e wz ⟨rfl, rfl⟩
            go_wp2_with (fail)
            go_roundw
            case rel => exact ⟨k + 1, A1, c1, E, AP, cP, by go_num, rfl, by omega, by omega, HTr.out, HT11.out, HP11.out, HO11.out⟩
            case measure => simp [intOf]; omega
      · as_aux_lemma =>
        go_wp2_with (fail)
        refine (of_any s _).mono ?_
        rintro e w9 ⟨rfl, o9⟩
        have T9 := HT8.out.keep o9
        have hat := at_any (s := s) T9 HTr.out os (by omega)
        have P9 : w9.ownsRow g 45 4 (.slice AP E.length cP) E.length (flat4 E) := ownsRow_only o9 HP8.out (fun _ _ => by simp)
        have H39 := Lib.hid (H38.out.keep o9)
        have HO9 := Lib.hid (HO8.out.trans o9 (by simp))
        have hs9 := o9.size
        have ll1 : (paT E s).length ≤ E.length := List.length_filter_le _ _
        have ll2 : (pbT E s).length ≤ E.length := List.length_filter_le _ _
        have HP9 := Lib.hid P9
        have HT9 := Lib.hid T9
        clear x0 x1 x2 x3 x4 xl HT8 HP8 HO8 HX8 H38 P9 o9 T9
        by_cases hf : stR s = true ∧ paT E s ++ pbT E s ≠ []
        · obtain ⟨l, hl⟩ : ∃ l, (paT E s ++ pbT E s).getLast? = some l := ⟨_, List.getLast?_eq_some_getLast hf.2⟩
          have hup := (HTr.out.upTo os hf.1).1
          have hlen : (paT E s ++ pbT E s).length = (paT E s).length + (pbT E s).length := by simp
          have hpos : 0 < (paT E s ++ pbT E s).length := List.length_pos_iff.2 hf.2
          have hu : upToT E s = (paT E s ++ pbT E s).length := by
            have := congrArg List.length hup
            rw [List.length_take, Nat.min_eq_left (upTo_le E s)] at this
            exact this
          obtain ⟨m, hm⟩ : ∃ m, (paT E s ++ pbT E s).length = m + 1 := ⟨(paT E s ++ pbT E s).length - 1, by omega⟩
          have hlm : (paT E s ++ pbT E s)[m]? = some l := by
            rw [List.getLast?_eq_getElem?, hm, Nat.add_sub_cancel] at hl; exact hl
          have hEm : E[m]? = some l := by
            rw [← hup, List.getElem?_take_of_lt (by omega)] at hlm; exact hlm
          have hav : atT E s = some l := by
            unfold atT
            rw [if_pos hf.1, hu, if_neg (by omega), hm, Nat.add_sub_cancel]; exact hEm
          rw [hav] at hat
          replace hat : Calls Try.prog 23 #[.pointer (some ⟨g, 0, none⟩), .agg #[.int .i64 s.1.1, .int .i64 s.1.2, .int .i64 s.2]] w9 fun e w' => e = .returned (.tuple #[.agg #[.int .i64 l.1.1.1, .int .i64 l.1.1.2, .int .i64 l.1.2], .int .i64 l.2, .bool true]) ∧ Only [] w9 w' := hat
          go_wp2_with (fail)
          refine hat.mono ?_
          clear hat
          rintro e w10 ⟨rfl, o10⟩
          obtain ⟨W11, hW11⟩ : ∃ W11, w10.alloc (.cells #[.int .i64 l.1.1.1, .int .i64 l.1.1.2, .int .i64 l.1.2] 34) = W11 := ⟨_, rfl⟩
          have bb11 : Blk W11 w10.heap.size 34 #[.int .i64 l.1.1.1, .int .i64 l.1.1.2, .int .i64 l.1.2] := by rw [← hW11]; exact Blk.new _ _ _
          have o11 : Only [] w9 W11 := by rw [← hW11]; exact o10.alloc _
          have H311 := H39.out.keep o11
          have h1 := H311.o1
          have h2 := H311.o2
          have hs11 := o11.size
          obtain ⟨AU, cU, w12, hrun, P12, o12, -⟩ := run_append_row4 (P := Try.prog) 32 Try.underlying32 ref_info rfl h1 (c := d2) (own_row4 rfl h2) rfl (by omega) (by unfold maxLen; omega) (by omega)
          have T11 := HT9.out.keep o11
          have hno := T11.own_other h1 (by decide) (by decide)
          have HT12 := Lib.hid (T11.keeps o12 (fun h => hno g (by simpa using h) (by simp)) (fun p hp h => hno p.block (by simpa using h) (by simp [hp])))
          have P11 : W11.ownsRow g 45 4 (.slice AP E.length cP) E.length (flat4 E) := ownsRow_only o11 HP9.out (fun _ _ => by simp)
          have hbase := h1.lt
          have HP12 := Lib.hid (ownsRow_only o12 P11 (fun b hb h => by
            have h3 := (hbase b (by simpa using h)).1
            cases AP with
            | none => simp [Value.ownBlock] at hb
            | some p => simp [Value.ownBlock] at hb; have := HPL.out p rfl; omega))
          have HO12 := Lib.hid ((HO9.out.trans o11 (by simp)).trans o12 (fun y hy => .inr (by have := (hbase y (by simpa using hy)).1; omega)))
          rw [hlen] at hm
          rw [hm] at hrun P12
          have hlm' : (paT E s ++ pbT E s)[m]? = some l := hlm
          obtain ⟨bu, rfl, hbu, -, a0, a1, a2, a3⟩ := own_cell (by rw [hlen, hm]) P12 hlm'
          have bb12 := Lib.hid (o12.blk bb11 (fun h => (owns_ne h1 bb11 (by decide)) (by simpa using h)))
          have HA := Lib.hid (And.intro a0 (And.intro a1 (And.intro a2 a3)))
          have hE : ∀ W, (binOp .eql 34 (.agg #[.int .i64 l.1.1.1, .int .i64 l.1.1.2, .int .i64 l.1.2]) (.agg #[.int .i64 l.1.1.1, .int .i64 l.1.1.2, .int .i64 l.1.2])).run Try.prog W = .ok (.bool true) W := fun W => by simp [go_sem]
          have hw64 : IntKind.i64.wrap (m : Int) = (m : Int) := by rw [IntKind.wrap_i64]; omega
          have hmm : (m : Int) < (m : Int) + 1 := by omega
          have hm0 : decide ((0 : Int) < (m : Int) + 1) = true := by first | (simp; done) | (simp; omega)
          try rw [hf.1]
          go_wp2_with (at_builtin; refine wpList_append_run hrun rfl _ _ rfl rfl rfl rfl ?_)
          refine wp_region_facts 24 [] (fr := ?frat) (tl := ?tlat) (fun i v wv => match i with
            | 0 => v = .bool true
            | 1 => v = .bool true
            | 2 => v = .agg #[.int .i64 l.1.1.1, .int .i64 l.1.1.2, .int .i64 l.1.2]
            | 3 => v = .slice (some ⟨bu, 0, none⟩) (m + 1) cU
            | 4 => v = .slice (some ⟨bu, 0, none⟩) (m + 1) cU
            | 5 => v = .int .i64 ((m : Int) + 1)
            | 6 => v = .int .i64 (m : Int)
            | 7 => v = .pointer (some ⟨bu, m * 4, none⟩)
            | 8 => v = .pointer (some ⟨bu, m * 4, none⟩)
            | 9 => v = .agg #[.int .i64 l.1.1.1, .int .i64 l.1.1.2, .int .i64 l.1.2]
            | 10 => v = .agg #[.int .i64 l.1.1.1, .int .i64 l.1.1.2, .int .i64 l.1.2]
            | 11 => v = .bool true
            | 12 => v = .bool true
            | 13 => v = .bool true
            | 14 => v = .int .i64 l.2
            | 15 => v = .slice (some ⟨bu, 0, none⟩) (m + 1) cU
            | 16 => v = .slice (some ⟨bu, 0, none⟩) (m + 1) cU
            | 17 => v = .int .i64 ((m : Int) + 1)
            | 18 => v = .int .i64 (m : Int)
            | 19 => v = .pointer (some ⟨bu, m * 4, none⟩)
            | 20 => v = .pointer (some ⟨bu, m * 4 + 3, none⟩)
            | 21 => v = .int .i64 l.2
            | 22 => v = .bool true
            | 23 => v = .bool true
            | _ => True) (by kernel_rfl) (by kernel_rfl) (by kernel_rfl) (by kernel_rfl) (by decide) ?htlat ?hfrat ?stabat ?stepsat ?doneat
          case htlat => simp only [List.drop_succ_cons, List.drop_zero]; rfl
          case hfrat => intro vals; simp only [putAll, dstAt, Act.put, List.getElem?_toArray, List.getElem?_cons_zero, List.getElem?_cons_succ, Option.bind_some, List.setIfInBounds_toArray, List.set_cons_zero, List.set_cons_succ]; rfl
          case stabat =>
            intro i v wa wb h
            try dsimp only
            split <;> first | exact id | fail
          case stepsat =>
            refine ⟨?_, ?_, ?_, ?_, ?_, ?_, ?_, ?_, ?_, ?_, ?_, ?_, ?_, ?_, ?_, ?_, ?_, ?_, ?_, ?_, ?_, ?_, ?_, ?_, trivial⟩
            · intro vals wr hR hp K hK
              dsimp only at hK ⊢
              clear hp
              unfold RunsOp
              go_simp
              exact hK.out _ _ ⟨_, rfl, Only.refl _ _, rfl⟩
            · intro vals wr hR hp K hK
              dsimp only at hK ⊢
              obtain ⟨p0, -⟩ := hp
              replace p0 := p0 rfl
              dsimp only at p0
              rw [p0] at hK ⊢
              clear p0
              unfold RunsOp
              go_simp
              exact hK.out _ _ ⟨_, rfl, Only.refl _ _, rfl⟩
            · intro vals wr hR hp K hK
              dsimp only at hK ⊢
              obtain ⟨p1, -⟩ := hp
              replace p1 := p1 rfl
              dsimp only at p1
              rw [p1] at hK ⊢
              clear p1
              unfold RunsOp
              have tbb := hR.blk (by first | exact bb12.out | exact Blk.drew bb12.out) (by simp)
              obtain ⟨cb0, cb1, cb2, cbl⟩ := tbb.facts3
              clear tbb
              go_simp
              exact hK.out _ _ ⟨_, rfl, Only.refl _ _, rfl⟩
            · intro vals wr hR hp K hK
              dsimp only at hK ⊢
              obtain ⟨p1, -⟩ := hp
              replace p1 := p1 rfl
              dsimp only at p1
              rw [p1] at hK ⊢
              clear p1
              unfold RunsOp
              go_simp
              exact hK.out _ _ ⟨_, rfl, Only.refl _ _, rfl⟩
            · intro vals wr hR hp K hK
              dsimp only at hK ⊢
              obtain ⟨p1, -⟩ := hp
              replace p1 := p1 rfl
              dsimp only at p1
              rw [p1] at hK ⊢
              clear p1
              unfold RunsOp
              go_simp
              exact hK.out _ _ ⟨_, rfl, Only.refl _ _, rfl⟩
            · intro vals wr hR hp K hK
              dsimp only at hK ⊢
              obtain ⟨p4, p1, -⟩ := hp
              replace p4 := p4 rfl
              replace p1 := p1 rfl
              dsimp only at p4 p1
              rw [p4, p1] at hK ⊢
              clear p4 p1
              unfold RunsOp
              go_simp
              exact hK.out _ _ ⟨_, rfl, Only.refl _ _, rfl⟩
            · intro vals wr hR hp K hK
              dsimp only at hK ⊢
              obtain ⟨p5, p1, -⟩ := hp
              replace p5 := p5 rfl
              replace p1 := p1 rfl
              dsimp only at p5 p1
              rw [p5, p1] at hK ⊢
              clear p5 p1
              unfold RunsOp
              go_simp
              exact hK.out _ _ ⟨_, rfl, Only.refl _ _, rfl⟩
            · intro vals wr hR hp K hK
              dsimp only at hK ⊢
              obtain ⟨p3, p6, p1, -⟩ := hp
              replace p3 := p3 rfl
              replace p6 := p6 rfl
              replace p1 := p1 rfl
              dsimp only at p3 p6 p1
              rw [p3, p6, p1] at hK ⊢
              clear p3 p6 p1
              unfold RunsOp
              go_simp
              exact hK.out _ _ ⟨_, rfl, Only.refl _ _, rfl⟩
            · intro vals wr hR hp K hK
              dsimp only at hK ⊢
              obtain ⟨p7, p1, -⟩ := hp
              replace p7 := p7 rfl
              replace p1 := p1 rfl
              dsimp only at p7 p1
              rw [p7, p1] at hK ⊢
              clear p7 p1
              unfold RunsOp
              go_simp
              exact hK.out _ _ ⟨_, rfl, Only.refl _ _, rfl⟩
            · intro vals wr hR hp K hK
              dsimp only at hK ⊢
              obtain ⟨p8, p1, -⟩ := hp
              replace p8 := p8 rfl
              replace p1 := p1 rfl
              dsimp only at p8 p1
              rw [p8, p1] at hK ⊢
              clear p8 p1
              unfold RunsOp
              have c0 := (hR.cell (p := ⟨bu, m * 4, none⟩) hbu (by simp)).trans HA.out.1
              have c1 := (hR.cell (p := ⟨bu, m * 4 + 1, none⟩) hbu (by simp)).trans HA.out.2.1
              have c2 := (hR.cell (p := ⟨bu, m * 4 + 2, none⟩) hbu (by simp)).trans HA.out.2.2.1
              go_simp
              exact hK.out _ _ ⟨_, rfl, Only.refl _ _, rfl⟩
            · intro vals wr hR hp K hK
              dsimp only at hK ⊢
              obtain ⟨p9, p1, -, -⟩ := hp
              replace p9 := p9 rfl
              replace p1 := p1 rfl
              dsimp only at p9 p1
              rw [p9, p1] at hK ⊢
              clear p9 p1
              unfold RunsOp
              go_simp
              refine (of_any l.1 _).mono ?_
              rintro e w2 ⟨rfl, o2⟩
              exact hK.out _ _ ⟨_, rfl, o2, rfl⟩
            · intro vals wr hR hp K hK
              dsimp only at hK ⊢
              obtain ⟨p2, p10, p1, -⟩ := hp
              replace p2 := p2 rfl
              replace p10 := p10 rfl
              replace p1 := p1 rfl
              dsimp only at p2 p10 p1
              obtain p10 := p10
              rw [p2, p10, p1] at hK ⊢
              clear p2 p10 p1
              unfold RunsOp
              go_simp
              exact hK.out _ _ ⟨_, rfl, Only.refl _ _, rfl⟩
            · intro vals wr hR hp K hK
              dsimp only at hK ⊢
              obtain ⟨p1, p11, -⟩ := hp
              replace p1 := p1 rfl
              replace p11 := p11 rfl
              dsimp only at p1 p11
              rw [p1, p11] at hK ⊢
              clear p1 p11
              unfold RunsOp
              go_simp
              exact hK.out _ _ ⟨_, rfl, Only.refl _ _, rfl⟩
            · intro vals wr hR hp K hK
              dsimp only at hK ⊢
              obtain ⟨p12, -, -⟩ := hp
              replace p12 := p12 rfl
              dsimp only at p12
              rw [p12] at hK ⊢
              clear p12
              unfold RunsOp
              go_simp
              exact hK.out _ _ ⟨_, rfl, Only.refl _ _, rfl⟩
            · intro vals wr hR hp K hK
              dsimp only at hK ⊢
              obtain ⟨p13, -⟩ := hp
              replace p13 := p13 rfl
              dsimp only at p13
              rw [p13] at hK ⊢
              clear p13
              unfold RunsOp
              go_simp
              exact hK.out _ _ ⟨_, rfl, Only.refl _ _, rfl⟩
            · intro vals wr hR hp K hK
              dsimp only at hK ⊢
              obtain ⟨p13, -⟩ := hp
              replace p13 := p13 rfl
              dsimp only at p13
              rw [p13] at hK ⊢
              clear p13
              unfold RunsOp
              go_simp
              exact hK.out _ _ ⟨_, rfl, Only.refl _ _, rfl⟩
            · intro vals wr hR hp K hK
              dsimp only at hK ⊢
              obtain ⟨p13, -⟩ := hp
              replace p13 := p13 rfl
              dsimp only at p13
              rw [p13] at hK ⊢
              clear p13
              unfold RunsOp
              go_simp
              exact hK.out _ _ ⟨_, rfl, Only.refl _ _, rfl⟩
            · intro vals wr hR hp K hK
              dsimp only at hK ⊢
              obtain ⟨p16, p13, -⟩ := hp
              replace p16 := p16 rfl
              replace p13 := p13 rfl
              dsimp only at p16 p13
              rw [p16, p13] at hK ⊢
              clear p16 p13
              unfold RunsOp
              go_simp
              exact hK.out _ _ ⟨_, rfl, Only.refl _ _, rfl⟩
            · intro vals wr hR hp K hK
              dsimp only at hK ⊢
              obtain ⟨p17, p13, -⟩ := hp
              replace p17 := p17 rfl
              replace p13 := p13 rfl
              dsimp only at p17 p13
              rw [p17, p13] at hK ⊢
              clear p17 p13
              unfold RunsOp
              go_simp
              exact hK.out _ _ ⟨_, rfl, Only.refl _ _, rfl⟩
            · intro vals wr hR hp K hK
              dsimp only at hK ⊢
              obtain ⟨p15, p18, p13, -⟩ := hp
              replace p15 := p15 rfl
              replace p18 := p18 rfl
              replace p13 := p13 rfl
              dsimp only at p15 p18 p13
              rw [p15, p18, p13] at hK ⊢
              clear p15 p18 p13
              unfold RunsOp
              go_simp
              exact hK.out _ _ ⟨_, rfl, Only.refl _ _, rfl⟩
            · intro vals wr hR hp K hK
              dsimp only at hK ⊢
              obtain ⟨p19, p13, -⟩ := hp
              replace p19 := p19 rfl
              replace p13 := p13 rfl
              dsimp only at p19 p13
              rw [p19, p13] at hK ⊢
              clear p19 p13
              unfold RunsOp
              go_simp
              exact hK.out _ _ ⟨_, rfl, Only.refl _ _, rfl⟩
            · intro vals wr hR hp K hK
              dsimp only at hK ⊢
              obtain ⟨p20, p13, -⟩ := hp
              replace p20 := p20 rfl
              replace p13 := p13 rfl
              dsimp only at p20 p13
              rw [p20, p13] at hK ⊢
              clear p20 p13
              unfold RunsOp
              have c3 := (hR.cell (p := ⟨bu, m * 4 + 3, none⟩) hbu (by simp)).trans HA.out.2.2.2
              go_simp
              exact hK.out _ _ ⟨_, rfl, Only.refl _ _, rfl⟩
            · intro vals wr hR hp K hK
              dsimp only at hK ⊢
              obtain ⟨p14, p21, p13, -⟩ := hp
              replace p14 := p14 rfl
              replace p21 := p21 rfl
              replace p13 := p13 rfl
              dsimp only at p14 p21 p13
              rw [p14, p21, p13] at hK ⊢
              clear p14 p21 p13
              unfold RunsOp
              go_simp
              exact hK.out _ _ ⟨_, rfl, Only.refl _ _, rfl⟩
            · intro vals wr hR hp K hK
              dsimp only at hK ⊢
              obtain ⟨p13, p22, -⟩ := hp
              replace p13 := p13 rfl
              replace p22 := p22 rfl
              dsimp only at p13 p22
              rw [p13, p22] at hK ⊢
              clear p13 p22
              unfold RunsOp
              go_simp
              exact hK.out _ _ ⟨_, rfl, Only.refl _ _, rfl⟩
          case doneat =>
            intro vals wd hR hF
            have f23 : vals 23 = .bool true := hF 23 (by decide)
            rw [f23]
            have oR := (Only.refl [] w12).drew.trans hR (by simp)
            have HT13 := Lib.hid (HT12.out.keep oR)
            have HP13 := Lib.hid (ownsRow_only oR HP12.out (fun _ _ => by simp) : wd.ownsRow g 45 4 (.slice AP E.length cP) E.length (flat4 E))
            have HO13 := Lib.hid (HO12.out.trans oR (by simp))
            clear hF f23 hR oR
            go_wp2_with (fail)
            refine (len_any HT13.out).mono ?_
            rintro e wz ⟨rfl, rfl⟩
            go_wp2_with (fail)
            go_roundw
            case rel => exact ⟨k + 1, A1, c1, E, AP, cP, by go_num, rfl, by omega, by omega, HTr.out, HT13.out, HP13.out, HO13.out⟩
            case measure => simp [intOf]; omega
        · have hav : atT E s = none := by
            unfold atT
            by_cases hr : stR s = true
            · rw [if_pos hr]
              have hup := (HTr.out.upTo os hr).1
              have h0 : paT E s ++ pbT E s = [] := Classical.byContradiction fun h => hf ⟨hr, h⟩
              have hu : upToT E s = 0 := by
                have := congrArg List.length hup
                rw [List.length_take, Nat.min_eq_left (upTo_le E s), h0] at this
                exact this
              rw [if_pos hu]
            · rw [if_neg hr]
          rw [hav] at hat
          replace hat : Calls Try.prog 23 #[.pointer (some ⟨g, 0, none⟩), .agg #[.int .i64 s.1.1, .int .i64 s.1.2, .int .i64 s.2]] w9 fun e w' => e = .returned (.tuple #[.agg #[.int .i64 0, .int .i64 0, .int .i64 0], .int .i64 0, .bool false]) ∧ Only [] w9 w' := hat
          go_wp2_with (fail)
          refine hat.mono ?_
          clear hat
          rintro e w10 ⟨rfl, o10⟩
          obtain ⟨W11, hW11⟩ : ∃ W11, w10.alloc (.cells #[.int .i64 0, .int .i64 0, .int .i64 0] 34) = W11 := ⟨_, rfl⟩
          have bb11 : Blk W11 w10.heap.size 34 #[.int .i64 0, .int .i64 0, .int .i64 0] := by rw [← hW11]; exact Blk.new _ _ _
          have o11 : Only [] w9 W11 := by rw [← hW11]; exact o10.alloc _
          have HW11 := Lib.hid hW11
          clear hW11
          have H311 := H39.out.keep o11
          have h1 := H311.o1
          have h2 := H311.o2
          have hs11 := o11.size
          obtain ⟨AU, cU, w12, hrun, P12, o12, -⟩ := run_append_row4 (P := Try.prog) 32 Try.underlying32 ref_info rfl h1 (c := d2) (own_row4 rfl h2) rfl (by omega) (by unfold maxLen; omega) (by omega)
          have T11 := HT9.out.keep o11
          have hno := T11.own_other h1 (by decide) (by decide)
          have HT12 := Lib.hid (T11.keeps o12 (fun h => hno g (by simpa using h) (by simp)) (fun p hp h => hno p.block (by simpa using h) (by simp [hp])))
          have P11 : W11.ownsRow g 45 4 (.slice AP E.length cP) E.length (flat4 E) := ownsRow_only o11 HP9.out (fun _ _ => by simp)
          have hbase := h1.lt
          have HP12 := Lib.hid (ownsRow_only o12 P11 (fun b hb h => by
            have h3 := (hbase b (by simpa using h)).1
            cases AP with
            | none => simp [Value.ownBlock] at hb
            | some p => simp [Value.ownBlock] at hb; have := HPL.out p rfl; omega))
          have HO12 := Lib.hid ((HO9.out.trans o11 (by simp)).trans o12 (fun y hy => .inr (by have := (hbase y (by simpa using hy)).1; omega)))
          obtain ⟨y0, y1, y2, yl⟩ := (o12.blk bb11 (fun h => (owns_ne h1 bb11 (by decide)) (by simpa using h))).facts3
          have hE : ∀ W, (binOp .eql 34 (.agg #[.int .i64 0, .int .i64 0, .int .i64 0]) (.agg #[.int .i64 0, .int .i64 0, .int .i64 0])).run Try.prog W = .ok (.bool true) W := fun W => by rw [eq_st34]; rfl
          cases rs : stR s with
          | false =>
            go_wp2_with (at_builtin; rw [HW11.out]; refine wpList_append_run hrun rfl _ _ rfl rfl rfl rfl ?_)
            go_wp2_with (fail)
            refine (len_any HT12.out).mono ?_
            rintro e wz ⟨rfl, rfl⟩
            go_wp2_with (fail)
            go_roundw
            case rel => exact ⟨k + 1, A1, c1, E, AP, cP, by go_num, rfl, by omega, by omega, HTr.out, HT12.out, HP12.out, HO12.out⟩
            case measure => simp [intOf]; omega
          | true =>
            have h0 : paT E s ++ pbT E s = [] := Classical.byContradiction fun h => hf ⟨rs, h⟩
            have hl0 : (paT E s).length + (pbT E s).length = 0 := by rw [← List.length_append, h0]; rfl
            rw [hl0] at hrun
            go_wp2_with (at_builtin; rw [HW11.out]; refine wpList_append_run hrun rfl _ _ rfl rfl rfl rfl ?_)
            go_wp2_with (fail)
            refine (len_any HT12.out).mono ?_
            rintro e wz ⟨rfl, rfl⟩
            go_wp2_with (fail)
            go_roundw
            case rel => exact ⟨k + 1, A1, c1, E, AP, cP, by go_num, rfl, by omega, by omega, HTr.out, HT12.out, HP12.out, HO12.out⟩
            case measure => simp [intOf]; omega
      · as_aux_lemma =>
        go_wp2_with (fail)
        refine (of_any s _).mono ?_
        rintro e w9 ⟨rfl, o9⟩
        have T9 := HT8.out.keep o9
        go_wp2_with (fail)
        refine (back_tot T9 HTr.out os (by omega)).mono ?_
        rintro e w10 ⟨v10, rfl, I10, T10, o10⟩
        have P9 : w9.ownsRow g 45 4 (.slice AP E.length cP) E.length (flat4 E) := ownsRow_only o9 HP8.out (fun _ _ => by simp)
        have HP10 := Lib.hid (ownsRow_only o10 P9 (T9.own_other P9 (by decide) (by decide)))
        have HO10 := Lib.hid ((HO8.out.trans o9 (by simp)).trans o10 (fun y hy => .inr (by have := T9.above y hy; omega)))
        have H310 := Lib.hid (Tri3.keepS (H38.out.keep o9) o10 (fun h => T9.own_other h (by decide) (by decide)))
        have hs10 := o10.size
        have hs9 := o9.size
        clear x0 x1 x2 x3 x4 xl HT8 HP8 HO8 HX8 H38 P9 o9 o10 T9
        cases rs : stR s with
        | false =>
          have e0 : uT E s = E.length := by unfold uT; rw [if_neg (by rw [rs]; simp)]
          rw [e0] at I10 T10
          obtain ⟨AB, cB, rfl, -⟩ := I10.row (N := w10.heap.size) (m := 0) (by simp) (val := fun _ => 0) (fun i hi => absurd hi (by omega)) rfl
          rw [List.take_length] at T10
          have HT10 := Lib.hid T10
          clear I10 T10 H310
          go_wp2_with (fail)
          refine (len_any HT10.out).mono ?_
          rintro e wz ⟨rfl, rfl⟩
          go_wp2_with (fail)
          go_roundw
          case rel => exact ⟨k + 1, A1, c1, E, AP, cP, by go_num, rfl, by omega, by omega, HTr.out, HT10.out, HP10.out, HO10.out⟩
          case measure => simp [intOf]; omega
        | true =>
          have e0 : uT E s = upToT E s := by unfold uT; rw [if_pos rs]
          rw [e0, (HTr.out.upTo os rs).2] at I10
          rw [e0, (HTr.out.upTo os rs).1] at T10
          obtain ⟨AB, cB, rfl, rB⟩ := I10.row (N := w10.heap.size) (m := (pcT E s).length) (by simp) (val := fun i => ((pcT E s).getD ((pcT E s).length - 1 - i) dE).2) (fun i hi => by rw [List.getElem?_reverse (by simpa using hi), List.length_map, List.getElem?_map, List.getElem?_eq_getElem (show (pcT E s).length - 1 - i < (pcT E s).length by omega)]; simp [List.getD, show (pcT E s).length - 1 - i < (pcT E s).length by omega]) rfl
          have HB := Lib.hid rB
          have HT10 := Lib.hid T10
          have hle : (pcT E s).length ≤ E.length := List.length_filter_le _ _
          have hw0 : IntKind.i64.wrap (((pcT E s).length : Int) - 1) = ((pcT E s).length : Int) - 1 := by rw [IntKind.wrap_i64]; omega
          clear I10 T10 rB e0
          go_wp2_with (fail)
          go_loopw [14, 23] (fun ok i wq => ok = .bool true ∧ ∃ j : Nat, i = .int .i64 j ∧ j ≤ (pcT E s).length ∧ Only [] w10 wq) (fun _ i _ => (pcT E s).length - (intOf i).toNat)
          case atStart => exact ⟨rfl, 0, rfl, Nat.zero_le _, Only.refl _ _⟩
          case round =>
            obtain ⟨rfl, j, rfl, hj, hoj⟩ := hrel
            by_cases hjl : j < (pcT E s).length
            · obtain ⟨hb, rfl, -, hbl, c0⟩ := (HB.out.besides hoj (by simp)) j hjl
              dsimp only at c0
              have hown := ownsRow_only hoj H310.out.o3 (fun _ _ => by simp)
              obtain ⟨q, hq⟩ : ∃ q, (pcT E s).length - 1 - j = q := ⟨_, rfl⟩
              have hql : q < (pcT E s).length := by omega
              rw [hq] at c0
              have hix : ((pcT E s).length : Int) - 1 - (j : Int) = (q : Int) := by omega
              have hw2 : IntKind.i64.wrap (q : Int) = (q : Int) := by rw [IntKind.wrap_i64]; omega
              obtain ⟨bb, hBB, -, -, -, -, -, f3⟩ := own_cell rfl hown (i := q) (e := (pcT E s).getD q dE) (by rw [List.getElem?_eq_getElem hql]; simp [List.getD, hql])
              generalize ((pcT E s).getD q dE).2 = val at c0 f3
              subst hBB
              have HOJ := Lib.hid hoj
              clear hown hoj hq
              go_wp2_with (fail)
              go_region
              go_wp2_with (fail)
              go_roundw
              case rel => exact ⟨by first | rfl | simp, j + 1, by go_num, by omega, by first | exact HOJ.out.drew | exact HOJ.out.drewN _⟩
              case measure => simp [intOf]; omega
            · obtain rfl : j = (pcT E s).length := by omega
              have H3q := H310.out.keep hoj
              have h1 := H3q.o1
              have h2 := H3q.o2
              have hsq := hoj.size
              have ll1 : (paT E s).length ≤ E.length := List.length_filter_le _ _
              have ll2 : (pbT E s).length ≤ E.length := List.length_filter_le _ _
              obtain ⟨A7, c7, w12, hrun, P12, o12, -⟩ := run_append_row4 (P := Try.prog) 32 Try.underlying32 ref_info rfl h1 (own_row4 rfl h2) rfl (by omega) (by unfold maxLen; omega) (by omega)
              have Tq := HT10.out.keep hoj
              have hno := Tq.own_other h1 (by decide) (by decide)
              have HT12 := Lib.hid (Tq.keeps o12 (fun h => hno g (by simpa using h) (by simp)) (fun p hp h => hno p.block (by simpa using h) (by simp [hp])))
              have hln : (paT E s ++ pbT E s).length = (paT E s).length + (pbT E s).length := by simp
              have HP12 := Lib.hid (show w12.ownsRow g 45 4 (.slice A7 (paT E s ++ pbT E s).length c7) (paT E s ++ pbT E s).length (flat4 (paT E s ++ pbT E s)) by rw [hln]; exact own_low P12 (by omega))
              have HO12 := Lib.hid ((HO10.out.trans hoj (by simp)).trans o12 (fun y hy => .inr (by have := (h1.lt y (by simpa using hy)).1; omega)))
              have hTr2 := HTr.out.take (upToT E s)
              rw [(HTr.out.upTo os rs).1] at hTr2
              have HTr2 := Lib.hid hTr2
              have HLN := Lib.hid hln
              have hl2 : (paT E s ++ pbT E s).length ≤ E.length := by rw [← (HTr.out.upTo os rs).1, List.length_take]; omega
              clear P12 o12 Tq hno hTr2 hln
              go_wp2_with (at_builtin; refine wpList_append_run hrun rfl _ _ rfl rfl rfl rfl ?_)
              go_wp2_with (fail)
              refine (len_any HT12.out).mono ?_
              rintro e wz ⟨rfl, rfl⟩
              rw [HLN.out]
              go_wp2_with (fail)
              go_roundw
              case rel => exact ⟨k + 1, A1, c1, (paT E s ++ pbT E s), A7, c7, by go_num, by rw [HLN.out], by omega, by omega, HTr2.out, HT12.out, HP12.out, HO12.out⟩
              case measure => simp [intOf]; omega
      · as_aux_lemma =>
        go_wp2_with (fail)
        refine (of_any s _).mono ?_
        rintro e w9 ⟨rfl, o9⟩
        have T9 := HT8.out.keep o9
        go_wp2_with (fail)
        refine (free_tot T9 HTr.out os (by omega)).mono ?_
        rintro e w10 ⟨v10, rfl, I10, T10, o10⟩
        have P9 : w9.ownsRow g 45 4 (.slice AP E.length cP) E.length (flat4 E) := ownsRow_only o9 HP8.out (fun _ _ => by simp)
        have HP10 := Lib.hid (ownsRow_only o10 P9 (T9.own_other P9 (by decide) (by decide)))
        have HO10 := Lib.hid ((HO8.out.trans o9 (by simp)).trans o10 (fun y hy => .inr (by have := T9.above y hy; omega)))
        have H310 := Lib.hid (Tri3.keepS (H38.out.keep o9) o10 (fun h => T9.own_other h (by decide) (by decide)))
        have hs10 := o10.size
        have hs9 := o9.size
        clear x0 x1 x2 x3 x4 xl HT8 HP8 HO8 HX8 H38 P9 o9 o10 T9
        cases rs : stR s with
        | false =>
          have e0 : fT E s = 0 := by unfold fT; rw [if_neg (by rw [rs]; simp)]
          rw [e0] at I10 T10
          obtain ⟨AB, cB, rfl, -⟩ := I10.row (N := w10.heap.size) (m := 0) (by simp) (val := fun _ => 0) (fun i hi => absurd hi (by omega)) rfl
          rw [List.drop_zero] at T10
          have HT10 := Lib.hid T10
          clear I10 T10 H310
          go_wp2_with (fail)
          refine (len_any HT10.out).mono ?_
          rintro e wz ⟨rfl, rfl⟩
          go_wp2_with (fail)
          go_roundw
          case rel => exact ⟨k + 1, A1, c1, E, AP, cP, by go_num, rfl, by omega, by omega, HTr.out, HT10.out, HP10.out, HO10.out⟩
          case measure => simp [intOf]; omega
        | true =>
          have e0 : fT E s = aheadT E s := by unfold fT; rw [if_pos rs]
          rw [e0, (HTr.out.ahead os rs).1] at I10
          rw [e0, (HTr.out.ahead os rs).2] at T10
          obtain ⟨AB, cB, rfl, rB⟩ := I10.row (N := w10.heap.size) (m := (paT E s).length) (by simp) (val := fun i => ((paT E s).getD i dE).2) (fun i hi => by rw [List.getElem?_map, List.getElem?_eq_getElem hi]; simp [List.getD, hi]) rfl
          have HB := Lib.hid rB
          have HT10 := Lib.hid T10
          have hle : (paT E s).length ≤ E.length := List.length_filter_le _ _
          have hw0 : IntKind.i64.wrap (((paT E s).length : Int) - 1) = ((paT E s).length : Int) - 1 := by rw [IntKind.wrap_i64]; omega
          clear I10 T10 rB e0
          go_wp2_with (fail)
          go_loopw [14, 25] (fun ok i wq => ok = .bool true ∧ ∃ j : Nat, i = .int .i64 j ∧ j ≤ (paT E s).length ∧ Only [] w10 wq) (fun _ i _ => (paT E s).length - (intOf i).toNat)
          case atStart => exact ⟨rfl, 0, rfl, Nat.zero_le _, Only.refl _ _⟩
          case round =>
            obtain ⟨rfl, j, rfl, hj, hoj⟩ := hrel
            by_cases hjl : j < (paT E s).length
            · obtain ⟨hb, rfl, -, hbl, c0⟩ := (HB.out.besides hoj (by simp)) j hjl
              dsimp only at c0
              have hown := ownsRow_only hoj H310.out.o1 (fun _ _ => by simp)
              obtain ⟨q, hq⟩ : ∃ q, j = q := ⟨_, rfl⟩
              subst hq
              have hql := hjl
              obtain ⟨bb, hBB, -, -, -, -, -, f3⟩ := own_cell rfl hown (i := j) (e := (paT E s).getD j dE) (by rw [List.getElem?_eq_getElem hql]; simp [List.getD, hql])
              generalize ((paT E s).getD j dE).2 = val at c0 f3
              subst hBB
              have HOJ := Lib.hid hoj
              clear hown hoj
              go_wp2_with (fail)
              go_region
              go_wp2_with (fail)
              go_roundw
              case rel => exact ⟨by first | rfl | simp, j + 1, by go_num, by omega, by first | exact HOJ.out.drew | exact HOJ.out.drewN _⟩
              case measure => simp [intOf]; omega
            · obtain rfl : j = (paT E s).length := by omega
              have H3q := H310.out.keep hoj
              have h1 := H3q.o2
              have h2 := H3q.o3
              have hsq := hoj.size
              have ll1 : (pbT E s).length ≤ E.length := List.length_filter_le _ _
              have ll2 : (pcT E s).length ≤ E.length := List.length_filter_le _ _
              obtain ⟨A7, c7, w12, hrun, P12, o12, -⟩ := run_append_row4 (P := Try.prog) 32 Try.underlying32 ref_info rfl h1 (own_row4 rfl h2) rfl (by omega) (by unfold maxLen; omega) (by omega)
              have Tq := HT10.out.keep hoj
              have hno := Tq.own_other h1 (by decide) (by decide)
              have HT12 := Lib.hid (Tq.keeps o12 (fun h => hno g (by simpa using h) (by simp)) (fun p hp h => hno p.block (by simpa using h) (by simp [hp])))
              have hln : (pbT E s ++ pcT E s).length = (pbT E s).length + (pcT E s).length := by simp
              have HP12 := Lib.hid (show w12.ownsRow g 45 4 (.slice A7 (pbT E s ++ pcT E s).length c7) (pbT E s ++ pcT E s).length (flat4 (pbT E s ++ pcT E s)) by rw [hln]; exact own_low P12 (by omega))
              have HO12 := Lib.hid ((HO10.out.trans hoj (by simp)).trans o12 (fun y hy => .inr (by have := (h1.lt y (by simpa using hy)).1; omega)))
              have hTr2 := HTr.out.drop (aheadT E s)
              rw [(HTr.out.ahead os rs).2] at hTr2
              have HTr2 := Lib.hid hTr2
              have HLN := Lib.hid hln
              have hl2 : (pbT E s ++ pcT E s).length ≤ E.length := by rw [← (HTr.out.ahead os rs).2, List.length_drop]; omega
              clear P12 o12 Tq hno hTr2 hln
              go_wp2_with (at_builtin; refine wpList_append_run hrun rfl _ _ rfl rfl rfl rfl ?_)
              go_wp2_with (fail)
              refine (len_any HT12.out).mono ?_
              rintro e wz ⟨rfl, rfl⟩
              rw [HLN.out]
              go_wp2_with (fail)
              go_roundw
              case rel => exact ⟨k + 1, A1, c1, (pbT E s ++ pcT E s), A7, c7, by go_num, by rw [HLN.out], by omega, by omega, HTr2.out, HT12.out, HP12.out, HO12.out⟩
              case measure => simp [intOf]; omega
    · obtain rfl : k = L.length := by omega
      have HT := Lib.hid hT
      have HP := Lib.hid hP
      have HO := Lib.hid hO
      clear hT hP hO hTr HL
      go_wp2_with (fail)
      refine (told_any HT.out (by omega)).mono ?_
      rintro e w10 ⟨A5, c5, rfl, W5, o10⟩
      have W6 : w10.ownsRow g 45 4 (.slice AP E.length cP) E.length (flat4 E) := ownsRow_only o10 HP.out (fun _ _ => by simp)
      have hsm := same_true (c := c5) (c' := cP) (own_row4 rfl W5) (own_row4 rfl W6) rfl (by omega)
      have HO10 := Lib.hid (HO.out.trans o10 (by simp))
      clear W5 W6 o10
      go_wp2_with (fail)
      refine hsm.mono ?_
      clear hsm
      rintro e w11 ⟨rfl, o11⟩
      go_wp2_with (fail)
      go_ret
      exact ⟨rfl, HO10.out.trans o11 (by simp)⟩
end Go.Proofs.Ytcggeogpanackaa
