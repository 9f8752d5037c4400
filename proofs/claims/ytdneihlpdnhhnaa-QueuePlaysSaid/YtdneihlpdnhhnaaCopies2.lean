import Derived.Test.YtdneihlpdnhhnaaCopies
namespace Go.Proofs.Ytdneihlpdnhhnaa
open Go.RowKit Go.Kx

theorem Qu.rb_lt {w : World} {b rb room : Nat} {xs : List Int} (h : Qu w b rb room xs) (hx : xs ≠ []) : rb < w.heap.size := by
  obtain ⟨ra, len, first, cs, h1, h2, h3, h4⟩ := h
  have : 0 < xs.length := List.length_pos_iff.2 hx
  exact (h2 (by have := h3.1; omega)).2.lt

def stepL (room : Nat) (xs : List Int) (a : Int × Int) : List Int := if a.1 % 5 < 2 then (if xs.length = room then xs else xs ++ [a.2]) else xs.tail

set_option maxHeartbeats 1000000 in
theorem step_any {b rb room : Nat} {xs : List Int} {w : World} (h : Qu w b rb room xs) (hb : rb < w.heap.size) (d x : Int) (hd0 : 0 ≤ d) (hd1 : d ≤ 255) :
    Calls Try.prog 17 #[.pointer (some ⟨b, 0, none⟩), .agg #[.int .u8 d, .int .i64 x]] w fun e w' => e = .returned (.tuple #[]) ∧ ∃ rb', (rb' = rb ∨ w.heap.size ≤ rb') ∧ rb' < w'.heap.size ∧ Qu w' b rb' room (stepL room xs (d, x)) ∧ Only [b, rb] w w' := by
  have o0 : ∀ o, Only [b, rb] w (w.alloc o) := fun o => (Only.refl _ w).alloc o
  have h0 : ∀ o, Qu (w.alloc o) b rb room xs := fun o => h.only ((Only.refl [] w).alloc o) (by simp) (by simp)
  have H := Lib.hid h0
  have O := Lib.hid o0
  have HB := Lib.hid hb
  clear h0 o0
  by_cases hd : d % 5 < 2
  · by_cases hf : xs.length = room
    · go_enter Try.func17, Try.ntmps17
      go_wp2_with (fail)
      refine (push_full (H.out _) hf _).mono ?_; rintro e w3 ⟨rfl, n, rfl⟩
      go_wp2_with (fail)
      go_end0
      exact ⟨rfl, rb, .inl rfl, by have := HB.out; simp; omega, by simp [stepL, hd, hf]; exact (H.out _).drewN n, (O.out _).drewN n⟩
    · have hlt : xs.length < room := by have := h.len; omega
      go_enter Try.func17, Try.ntmps17
      go_wp2_with (fail)
      refine (push_ok (H.out _) hlt _).mono ?_; rintro e w3 ⟨rfl, rb', hrb, q3, o3⟩
      have Q3 := Lib.hid q3; clear q3
      go_wp2_with (fail)
      go_end0
      refine ⟨rfl, rb', ?_, Q3.out.rb_lt (by simp), by simp [stepL, hd, hf]; exact Q3.out, (O.out _).trans o3 (fun _ h => .inl h)⟩
      simp at hrb; omega
  · cases xs with
    | nil =>
      go_enter Try.func17, Try.ntmps17
      go_wp2_with (fail)
      refine (pop_none (H.out _)).mono ?_; rintro e w3 ⟨rfl, o3⟩
      go_wp2_with (fail)
      go_end0
      have s3 := o3.size
      simp at s3
      exact ⟨rfl, rb, .inl rfl, by have := HB.out; omega, by rw [stepL, if_neg (show ¬ d % 5 < 2 by omega)]; exact (H.out _).only o3 (by simp) (by simp), (O.out _).trans o3 (fun _ h => by simp at h)⟩
    | cons y ys =>
      go_enter Try.func17, Try.ntmps17
      go_wp2_with (fail)
      refine (pop_some (H.out _)).mono ?_; rintro e w3 ⟨rfl, q3, o3⟩
      have Q3 := Lib.hid q3; clear q3
      go_wp2_with (fail)
      go_end0
      have s3 := o3.size
      simp at s3
      exact ⟨rfl, rb, .inl rfl, by have := HB.out; omega, by rw [stepL, if_neg (show ¬ d % 5 < 2 by omega)]; exact Q3.out, (O.out _).trans o3 (fun _ h => .inl h)⟩


theorem acts_at {w wr : World} {S : List Nat} {A : Option Addr} {L : List (Int × Int)} (h : Acts w A L) (ho : Only S w wr) (hS : ∀ x ∈ S, w.heap.size ≤ x) {k : Nat} (hk : k < L.length) :
    ∃ lb lo, A = some ⟨lb, lo, none⟩ ∧ 0 ≤ L[k].1 ∧ L[k].1 ≤ 255 ∧ wr.cell? ⟨lb, lo + k * 2, none⟩ = some (.int .u8 L[k].1) ∧ wr.cell? ⟨lb, lo + k * 2 + 1, none⟩ = some (.int .i64 L[k].2) := by
  obtain ⟨hd0, hd1, lb, lo, rfl, hlb, ca, cx⟩ := h k L[k].1 L[k].2 (List.getElem?_eq_getElem hk)
  have hn : lb ∉ S := fun e => by have := hS _ e; omega
  exact ⟨lb, lo, rfl, hd0, hd1, (ho.cell (p := ⟨lb, lo + k * 2, none⟩) hlb hn).trans ca, (ho.cell (p := ⟨lb, lo + k * 2 + 1, none⟩) hlb hn).trans cx⟩

def run (room : Nat) (L : List (Int × Int)) (xs : List Int) : List Int := L.foldl (stepL room) xs
theorem run_succ (room : Nat) (L : List (Int × Int)) (xs : List Int) {k : Nat} (hk : k < L.length) : run room (L.take (k + 1)) xs = stepL room (run room (L.take k) xs) (L[k].1, L[k].2) := by
  unfold run
  rw [List.take_succ_eq_append_getElem hk, List.foldl_append]; rfl

set_option maxHeartbeats 4000000 in
theorem copies_any (room : Int) (A B : Option Addr) (ca cb : Nat) (L M : List (Int × Int)) (w : World) (hA : Acts w A L) (hB : Acts w B M) (hl : L.length ≤ 9223372036854775807) (hm : M.length ≤ 9223372036854775807) (hroom : 0 ≤ room ∧ room ≤ 255) :
    Calls Try.prog 6 #[.int .u8 room, .slice A L.length ca, .slice B M.length cb] w fun e w' => e = .returned (.bool true) ∧ Only [] w w' := by
  have HA := Lib.hid hA; clear hA
  have HB := Lib.hid hB; clear hB
  by_cases hfew : (300 : Int) < (L.length : Int) ∨ ¬ (300 : Int) < (L.length : Int) ∧ (300 : Int) < (M.length : Int)
  · rcases hfew with hfew | ⟨hfew, hfew2⟩
    all_goals
      go_enter Try.func6, Try.ntmps6
      go_wp2_with (fail)
      refine (awake_any _).mono ?_; rintro e w1 ⟨rfl, o1⟩
      go_wp2_with (fail)
      refine (awake_any _).mono ?_; rintro e w2 ⟨rfl, o2⟩
      go_wp2_with (fail)
      go_ret
      exact ⟨rfl, o1.trans o2 (fun _ h => by simp at h)⟩
  · have hL : (L.length : Int) ≤ 300 := by omega
    have hM : (M.length : Int) ≤ 300 := by omega
    clear hfew hl hm
    obtain ⟨N, hN, hN1, hN2⟩ : ∃ N : Nat, 1 + room % 9 = (N : Int) ∧ 1 ≤ N ∧ N ≤ 9 := ⟨(1 + room % 9).toNat, by omega, by omega, by omega⟩
    go_enter Try.func6, Try.ntmps6
    go_wp2_with (fail)
    refine (awake_any _).mono ?_; rintro e w1 ⟨rfl, o1⟩
    go_wp2_with (fail)
    refine (new_ok N _ (by omega) (by omega)).mono ?_; rintro e w2 ⟨rfl, q2, o2⟩
    have Q2 := Lib.hid q2
    have P2 := Lib.hid hN
    have s1 := o1.size
    have hb2 := q2.lt
    clear q2 hN
    go_wp2_with (fail)
    go_loopw [9] (fun i wr => ∃ k rb : Nat, i = .int .i64 k ∧ k ≤ L.length ∧ Qu wr w1.heap.size rb N (run N (L.take k) []) ∧ Only [] w wr ∧ w1.heap.size ≤ rb ∧ rb < wr.heap.size) (fun i _ => L.length - (intOf i).toNat)
    case atStart => exact ⟨0, w1.heap.size, rfl, by omega, Q2.out, o1.trans o2 (fun _ h => by simp at h), Nat.le_refl _, hb2⟩
    case round =>
      obtain ⟨k, rb, rfl, hk, q, o, hrb, hrb2⟩ := hrel
      have Q := Lib.hid q
      clear q
      by_cases hlt : k < L.length
      · obtain ⟨lb, lo, rfl, hd0, hd1, cd, cx⟩ := acts_at HA.out o (by simp) hlt
        go_wp2_with (fail)
        refine (step_any Q.out hrb2 _ _ hd0 hd1).mono ?_; rintro e w3 ⟨rfl, rb', hrb', hlt3, q3, o3⟩
        have s3 := o3.size
        rw [← run_succ N L [] hlt] at q3
        have Q3 := Lib.hid q3
        clear q3
        go_wp2_with (fail)
        go_roundw
        case rel => exact ⟨k + 1, rb', by go_num, by omega, Q3.out, o.trans o3 (fun y hy => by simp at hy; have := o2.size; omega), by omega, hlt3⟩
        case measure => simp [intOf]; omega
      · obtain rfl : k = L.length := by omega
        have q' := Q.out
        rw [List.take_length] at q'
        have hxl := q'.len
        have QX := Lib.hid q'
        clear q' Q
        obtain ⟨XS, hXS⟩ : ∃ XS, XS = run N L [] := ⟨_, rfl⟩
        rw [← hXS] at QX hxl
        clear hXS
        go_wp2_with (fail)
        refine (copy_any QX.out).mono ?_; rintro e w3 ⟨bc, rc, rfl, hbc, hrc, hrc2, qc, o3⟩
        have hbc2 := qc.lt
        have s3 := o3.size
        have qx3 := QX.out.only o3 (by simp) (by simp)
        have QC := Lib.hid qc
        have QX3 := Lib.hid qx3
        clear qc qx3
        go_wp2_with (fail)
        refine (litems_any QX3.out).mono ?_; rintro e w4 ⟨v, rfl, hv, o4, hvb⟩
        obtain ⟨Aw, cw, rfl, hiw⟩ := ints_of_own hv
        have s4 := o4.size
        have hiwb : ∀ g, Aw = some ⟨g, 0, none⟩ → w3.heap.size ≤ g ∧ g < w4.heap.size := fun g h => ⟨hvb g (by rw [h]; rfl), (hv.lt g (by rw [h]; rfl)).2⟩
        have qx4 := QX3.out.only o4 (by simp) (by simp)
        have qc4 := QC.out.only o4 (by simp) (by simp)
        have QC4 := Lib.hid qc4
        have QX4 := Lib.hid qx4
        have HIW := Lib.hid hiw
        have HIB := Lib.hid hiwb
        clear qx4 qc4 hv hvb hiw hiwb
        have o4' : Only [] w w4 := (o.trans o3 (fun _ h => by simp at h)).trans o4 (fun _ h => by simp at h)
        go_wp2_with (fail)
        go_loopw [12] (fun i wr => ∃ k rc : Nat, i = .int .i64 k ∧ k ≤ M.length ∧ Qu wr bc rc N (run N (M.take k) XS) ∧ Qu wr w1.heap.size rb N XS ∧ Ints wr Aw XS ∧ Only [] w wr ∧ w4.heap.size ≤ wr.heap.size ∧ rc ≠ w1.heap.size ∧ rc ≠ rb ∧ w1.heap.size ≤ rc ∧ rc < wr.heap.size ∧ (∀ g, Aw = some ⟨g, 0, none⟩ → g ≠ rc)) (fun i _ => M.length - (intOf i).toNat)
        case atStart => exact ⟨0, rc, rfl, by omega, QC4.out, QX4.out, HIW.out, o4', Nat.le_refl _, by omega, by omega, by omega, by omega, fun g h => by have := HIB.out g h; omega⟩
        case round =>
          obtain ⟨k, rc, rfl, hk, qc, qx, hiw, o, hsz, n1, n2, n3, n4, n5⟩ := hrel
          have N5 := Lib.hid n5
          clear n5
          have QC := Lib.hid qc
          have QX := Lib.hid qx
          have HIW5 := Lib.hid hiw
          clear qc qx hiw
          by_cases hlt : k < M.length
          · obtain ⟨lb, lo, rfl, hd0, hd1, cd, cx⟩ := acts_at HB.out o (by simp) hlt
            go_wp2_with (fail)
            refine (step_any QC.out n4 _ _ hd0 hd1).mono ?_; rintro e w5 ⟨rfl, rc', hrc', hlt5, q5, o5⟩
            have s5 := o5.size
            rw [← run_succ N M XS hlt] at q5
            have Q5 := Lib.hid q5
            clear q5
            have qx5 := QX.out.only o5 (by simp; omega) (by simp; omega)
            have hiw5 := HIW5.out.only o5 (fun g h => by have := HIB.out g h; have := N5.out g h; simp; omega)
            have QX5 := Lib.hid qx5
            have HIW6 := Lib.hid hiw5
            clear qx5 hiw5
            go_wp2_with (fail)
            go_roundw
            case rel => exact ⟨k + 1, rc', by go_num, by omega, Q5.out, QX5.out, HIW6.out, o.trans o5 (fun y hy => by simp at hy; omega), by omega, by omega, by omega, by omega, hlt5, fun g h => by have := HIB.out g h; have := N5.out g h; omega⟩
            case measure => simp [intOf]; omega
          · obtain rfl : k = M.length := by omega
            have q' := QC.out
            rw [List.take_length] at q'
            have hyl := q'.len
            have QY := Lib.hid q'
            clear q' QC
            obtain ⟨YS, hYS⟩ : ∃ YS, YS = run N M XS := ⟨_, rfl⟩
            rw [← hYS] at QY hyl
            clear hYS
            have hrm := QY.out.room
            go_wp2_with (fail)
            refine (litems_any QX.out).mono ?_; rintro e w5 ⟨v, rfl, hv, o5, hvb⟩
            obtain ⟨Av, cv, rfl, hiv⟩ := ints_of_own hv
            have hiw5 := HIW5.out.only o5 (by simp)
            have HV := Lib.hid hiv
            have HW := Lib.hid hiw5
            clear hiv hv hvb hiw5
            go_wp2_with (fail)
            refine (alike_any HV.out HW.out (by omega) (by omega) rfl).mono ?_; rintro e w6 ⟨rfl, nn, rfl⟩
            have qy5 := QY.out.only o5 (by simp) (by simp)
            have QY5 := Lib.hid qy5
            have qx5 := QX.out.only o5 (by simp) (by simp)
            have QX5 := Lib.hid qx5
            have s5 := o5.size
            clear qy5 qx5
            go_wp2_with (fail)
            refine (litems_any (QY5.out.drewN nn)).mono ?_; rintro e w7 ⟨v, rfl, hv, o7, hvb⟩
            obtain ⟨An, cn, rfl, hin⟩ := ints_of_own hv
            have hinb : ∀ g, An = some ⟨g, 0, none⟩ → w5.heap.size ≤ g ∧ g < w7.heap.size := fun g h => ⟨hvb g (by rw [h]; rfl), (hv.lt g (by rw [h]; rfl)).2⟩
            have s7 := o7.size
            simp at s7
            have HIN := Lib.hid hin
            have HINB := Lib.hid hinb
            have qy7 := (QY5.out.drewN nn).only o7 (by simp) (by simp)
            have qx7 := (QX5.out.drewN nn).only o7 (by simp) (by simp)
            have QY7 := Lib.hid qy7
            have QX7 := Lib.hid qx7
            have o7' : Only [] w w7 := ((o.trans o5 (fun _ h => by simp at h)).drewN nn).trans o7 (fun _ h => by simp at h)
            clear hv hvb hin hinb qy7 qx7
            go_wp2_with (fail)
            go_loopw [14] (fun i wr => ∃ k rb : Nat, ∃ ZS, i = .int .i64 k ∧ k ≤ L.length ∧ Qu wr bc rc N YS ∧ Qu wr w1.heap.size rb N ZS ∧ Ints wr An YS ∧ Only [] w wr ∧ w7.heap.size ≤ wr.heap.size ∧ rb ≠ bc ∧ rb ≠ rc ∧ w1.heap.size ≤ rb ∧ rb < wr.heap.size ∧ (∀ g, An = some ⟨g, 0, none⟩ → g ≠ rb)) (fun i _ => L.length - (intOf i).toNat)
            case atStart => exact ⟨0, rb, XS, rfl, by omega, QY7.out, QX7.out, HIN.out, o7', Nat.le_refl _, by omega, by omega, by omega, by omega, fun g h => by have := HINB.out g h; omega⟩
            case round =>
              obtain ⟨k, rb, ZS, rfl, hk, qc, qx, hin, o, hsz', n1, n2, n3, n4, n5⟩ := hrel
              have QC := Lib.hid qc
              have QX := Lib.hid qx
              have HIN5 := Lib.hid hin
              have N5 := Lib.hid n5
              clear qc qx hin n5
              by_cases hlt : k < L.length
              · obtain ⟨lb, lo, rfl, hd0, hd1, cd, cx⟩ := acts_at HA.out o (by simp) hlt
                go_wp2_with (fail)
                refine (step_any QX.out n4 _ _ hd0 hd1).mono ?_; rintro e w8 ⟨rfl, rb', hrb', hlt5, q5, o8⟩
                have s8 := o8.size
                have Q5 := Lib.hid q5
                clear q5
                have qc5 := QC.out.only o8 (by simp; omega) (by simp; omega)
                have hin5 := HIN5.out.only o8 (fun g h => by have := HINB.out g h; have := N5.out g h; simp; omega)
                have QC5 := Lib.hid qc5
                have HIN6 := Lib.hid hin5
                clear qc5 hin5
                go_wp2_with (fail)
                go_roundw
                case rel => exact ⟨k + 1, rb', _, by go_num, by omega, QC5.out, Q5.out, HIN6.out, o.trans o8 (fun y hy => by simp at hy; omega), by omega, by omega, by omega, by omega, hlt5, fun g h => by have := HINB.out g h; have := N5.out g h; omega⟩
                case measure => simp [intOf]; omega
              · go_wp2_with (fail)
                refine (litems_any QC.out).mono ?_; rintro e w8 ⟨v, rfl, hv, o8, hvb⟩
                obtain ⟨Av, cv, rfl, hiv⟩ := ints_of_own hv
                have hin8 := HIN5.out.only o8 (by simp)
                have HV := Lib.hid hiv
                have HW := Lib.hid hin8
                clear hiv hv hvb hin8
                go_wp2_with (fail)
                refine (alike_any HV.out HW.out (by omega) (by omega) rfl).mono ?_; rintro e w9 ⟨rfl, nn, rfl⟩
                go_wp2_with (fail)
                go_ret
                exact ⟨rfl, (o.trans o8 (fun _ h => by simp at h)).drewN _⟩

end Go.Proofs.Ytdneihlpdnhhnaa
