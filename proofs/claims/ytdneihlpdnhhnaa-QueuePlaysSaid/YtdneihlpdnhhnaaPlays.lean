import Derived.Test.YtdneihlpdnhhnaaRef
import Derived.Test.YtdneihlpdnhhnaaCopies2
namespace Go.Proofs.Ytdneihlpdnhhnaa
open Go.RowKit Go.Kx
attribute [local go_sem] Oper.semAt_some

theorem RQ.rb_lt {w : World} {b rb room : Nat} {xs : List Int} (h : RQ w b rb room xs) (hx : xs ≠ []) : rb < w.heap.size := by
  obtain ⟨A, cap, off, cs, h1, h2, h3⟩ := h
  exact (h2 (List.length_pos_iff.2 hx)).2.1.lt

/-- the program's queue at b (ring rb) holds xs, the reference's at mb (row rbr) holds ys -/
def PInv (w wr : World) (R M mb N b rb rbr : Nat) (xs ys : List Int) : Prop :=
  Qu wr b rb N xs ∧ RQ wr mb rbr N ys ∧ Blk wr M 35 #[.pointer (some ⟨mb, 0, none⟩)] ∧ Blk wr R 4 #[.bool false] ∧ Only [] w wr ∧ rb < wr.heap.size ∧ rbr < wr.heap.size ∧
    (w.heap.size ≤ b ∧ w.heap.size ≤ rb ∧ w.heap.size ≤ rbr ∧ w.heap.size ≤ mb) ∧ rb ≠ mb ∧ rb ≠ M ∧ rb ≠ R ∧ rb ≠ rbr ∧ b ≠ rbr ∧ b ≠ mb ∧ b ≠ M ∧ b ≠ R ∧ mb < wr.heap.size ∧ M < wr.heap.size ∧ R < wr.heap.size ∧ b < wr.heap.size ∧ mb ≠ M ∧ mb ≠ R

theorem PInv.rcell {w wr : World} {R M mb N b rb rbr : Nat} {xs ys : List Int} (h : PInv w wr R M mb N b rb rbr xs ys) : ∃ A cap, wr.cell? ⟨mb, 1, none⟩ = some (.slice A ys.length cap) := by
  obtain ⟨A, cap, off, cs, h1, _⟩ := h.2.1
  exact ⟨A, cap, by simpa using h1.cell 1⟩
theorem PInv.mcell {w wr : World} {R M mb N b rb rbr : Nat} {xs ys : List Int} (h : PInv w wr R M mb N b rb rbr xs ys) : wr.cell? ⟨M, 0, none⟩ = some (.pointer (some ⟨mb, 0, none⟩)) := by simpa using h.2.2.1.cell 0
theorem PInv.keep {w wr w' : World} {R M mb N b rb rbr : Nat} {xs ys : List Int} (h : PInv w wr R M mb N b rb rbr xs ys) (ho : Only [] wr w') : PInv w w' R M mb N b rb rbr xs ys := by
  obtain ⟨h1, h2, h3, h4, h5, h6⟩ := h
  have := ho.size
  exact ⟨h1.only ho (by simp) (by simp), h2.only ho (by simp) (by simp), ho.blk h3 (by simp), ho.blk h4 (by simp), h5.trans ho (fun _ h => by simp at h), by omega⟩
theorem PInv.q_step {w wr w' : World} {R M mb N b rb rbr rb' : Nat} {xs ys xs' : List Int} (h : PInv w wr R M mb N b rb rbr xs ys) (hq : Qu w' b rb' N xs') (ho : Only [b, rb] wr w') (h1 : rb' = rb ∨ wr.heap.size ≤ rb') (h2 : rb' < w'.heap.size) :
    PInv w w' R M mb N b rb' rbr xs' ys := by
  obtain ⟨_, k2, k3, k4, k5, k6⟩ := h
  have := ho.size
  refine ⟨hq, k2.only ho (by simp; omega) (by simp; omega), ho.blk k3 (by simp; omega), ho.blk k4 (by simp; omega), k5.trans ho (fun x hx => .inr (by simp at hx; omega)), by omega⟩
theorem PInv.r_step {w wr w' : World} {R M mb N b rb rbr rbr' : Nat} {xs ys ys' : List Int} (h : PInv w wr R M mb N b rb rbr xs ys) (hq : RQ w' mb rbr' N ys') (ho : Only [mb] wr w') (h1 : rbr' = rbr ∨ wr.heap.size ≤ rbr') (h2 : rbr' < w'.heap.size) :
    PInv w w' R M mb N b rb rbr' xs ys' := by
  obtain ⟨k1, _, k3, k4, k5, k6⟩ := h
  have := ho.size
  refine ⟨k1.only ho (by simp; omega) (by simp; omega), hq, ho.blk k3 (by simp; omega), ho.blk k4 (by simp; omega), k5.trans ho (fun x hx => .inr (by simp at hx; omega)), by omega⟩

theorem PInv.swap {w wr : World} {R M mb N b rb rbr b' rc : Nat} {xs ys xs' : List Int} (h : PInv w wr R M mb N b rb rbr xs ys) (hq : Qu wr b' rc N xs') (h1 : w.heap.size ≤ b') (h2 : w.heap.size ≤ rc) (h3 : rc < wr.heap.size)
    (a1 : rc ≠ mb) (a2 : rc ≠ M) (a3 : rc ≠ R) (a4 : rc ≠ rbr) (a5 : b' ≠ mb) (a6 : b' ≠ M) (a7 : b' ≠ R) (a8 : b' ≠ rbr) : PInv w wr R M mb N b' rc rbr xs' ys := by
  obtain ⟨_, k2, k3, k4, k5, k6, k7, ⟨k8, k9, k10, k11⟩, n1, n2, n3, n4, n5, n6, n7, n8, l1, l2, l3, l4, m1, m2⟩ := h
  exact ⟨hq, k2, k3, k4, k5, h3, k7, ⟨h1, h2, k10, k11⟩, a1, a2, a3, a4, a8, a5, a6, a7, l1, l2, l3, hq.lt, m1, m2⟩
theorem PInv.keepS {w wr w' : World} {S : List Nat} {R M mb N b rb rbr : Nat} {xs ys : List Int} (h : PInv w wr R M mb N b rb rbr xs ys) (ho : Only S wr w') (hS : ∀ x ∈ S, wr.heap.size ≤ x) : PInv w w' R M mb N b rb rbr xs ys := by
  have ho' : Only [] wr w' := ho.mono (fun x hx => .inr (hS x hx))
  exact h.keep ho'

theorem PInv.keep1 {w wr w' : World} {R M mb N b rb rbr c : Nat} {xs ys : List Int} (h : PInv w wr R M mb N b rb rbr xs ys) (ho : Only [c] wr w') (_h : True) (hc : w.heap.size ≤ c ∧ c ≠ b ∧ c ≠ rb ∧ c ≠ mb ∧ c ≠ rbr ∧ c ≠ R ∧ c ≠ M) : PInv w w' R M mb N b rb rbr xs ys := by
  obtain ⟨h1, h2, h3, h4, h5, k6, k7, k8, n1, n2, n3, n4, n5, n6, n7, n8, l1, l2, l3, l4, m1, m2⟩ := h
  have hs := ho.size
  have a1 : b ∉ [c] := by simp; exact fun e => hc.2.1 e.symm
  have a2 : rb ∉ [c] := by simp; exact fun e => hc.2.2.1 e.symm
  have a3 : mb ∉ [c] := by simp; exact fun e => hc.2.2.2.1 e.symm
  have a4 : rbr ∉ [c] := by simp; exact fun e => hc.2.2.2.2.1 e.symm
  have a5 : R ∉ [c] := by simp; exact fun e => hc.2.2.2.2.2.1 e.symm
  have a6 : M ∉ [c] := by simp; exact fun e => hc.2.2.2.2.2.2 e.symm
  exact ⟨h1.only ho a1 a2, h2.only ho a3 a4, ho.blk h3 a6, ho.blk h4 a5, h5.trans ho (fun x hx => .inr (by simp at hx; subst hx; exact hc.1)), by omega, by omega, k8, n1, n2, n3, n4, n5, n6, n7, n8, by omega, by omega, by omega, by omega, m1, m2⟩
theorem PInv.keepC {w wr w' : World} {B R M mb N b rb rbr : Nat} {xs ys : List Int} (h : PInv w wr R M mb N b rb rbr xs ys) (hk : KeepC B wr w') (hB : w.heap.size ≤ B) : PInv w w' R M mb N b rb rbr xs ys := by
  obtain ⟨⟨ra, len, first, cs, q1, q2, q3⟩, ⟨A, cap, off, cs', r1, r2, r3⟩, h3, h4, h5, k6, k7, k8, n1, n2, n3, n4, n5, n6, n7, n8, l1, l2, l3, l4, m1, m2⟩ := h
  have hs := hk.size
  exact ⟨⟨ra, len, first, cs, hk.blk q1, fun hl => ⟨(q2 hl).1, hk.blk (q2 hl).2⟩, q3⟩, ⟨A, cap, off, cs', hk.blk r1, fun hl => ⟨(r2 hl).1, hk.blk (r2 hl).2.1, (r2 hl).2.2⟩, r3⟩, hk.blk h3, hk.blk h4, h5.keepC hk hB,
    by omega, by omega, k8, n1, n2, n3, n4, n5, n6, n7, n8, by omega, by omega, by omega, by omega, m1, m2⟩

theorem push_all {b rb room : Nat} {xs : List Int} {w : World} (h : Qu w b rb room xs) (hb : rb < w.heap.size) (hr : 1 ≤ room) (x : Int) :
    Calls Try.prog 9 #[.pointer (some ⟨b, 0, none⟩), .int .i64 x] w fun e w' => ∃ v, e = .returned (.int .i64 v) ∧ ∃ rb' y ys, (rb' = rb ∨ w.heap.size ≤ rb') ∧ rb' < w'.heap.size ∧ Qu w' b rb' room (y :: ys) ∧ Only [b, rb] w w' := by
  by_cases hf : xs.length = room
  · refine (push_full h hf x).mono ?_
    rintro e w' ⟨rfl, n, rfl⟩
    cases xs with
    | nil => simp at hf; omega
    | cons y ys => exact ⟨_, rfl, rb, y, ys, .inl rfl, hb, h.drewN n, (Only.refl _ _).drewN n⟩
  · refine (push_ok h (by have := h.len; omega) x).mono ?_
    rintro e w' ⟨rfl, rb', h1, h2, h3⟩
    have h4 : rb' < w'.heap.size := h2.rb_lt (by simp)
    cases hx : xs ++ [x] with
    | nil => simp at hx
    | cons y ys => rw [hx] at h2; exact ⟨_, rfl, rb', y, ys, h1, h4, h2, h3⟩

theorem res4 (tmps : Array Value) (p : Addr) (h : tmps[4]?.getD undef = .pointer (some p)) (WA : World) (hc : WA.cell? p = some (.bool true)) : (results Try.f4 tmps).run Try.prog WA = .ok (.bool true) WA := by
  simp [results, Try.results4, go_sem, h, hc]

set_option maxRecDepth 100000 in
set_option maxHeartbeats 4000000 in
theorem plays_any (room : Int) (A : Option Addr) (ca : Nat) (L : List (Int × Int)) (w : World) (hA : Acts w A L) (hl : L.length ≤ 9223372036854775807) (hroom : 0 ≤ room ∧ room ≤ 255) :
    Calls Try.prog 4 #[.int .u8 room, .slice A L.length ca] w fun e w' => e = .returned (.bool true) ∧ Only [] w w' := by
  have HA := Lib.hid hA; clear hA
  by_cases hfew : (300 : Int) < (L.length : Int)
  · refine calls_marks Try.func4 rfl ?_
    simp only [Try.ntmps4, List.size_toArray, List.length_cons, List.length_nil, Nat.reduceAdd, Nat.reduceSub, Array.replicate_succ, Array.replicate_zero, List.push_toArray, List.append_toArray, List.nil_append, List.cons_append]
    go_wp2_with (fail)
    refine (awake_any _).mono ?_; rintro e w1 ⟨rfl, o1⟩
    go_wp2_with (fail)
    refine (awake_any _).mono ?_; rintro e w2 ⟨rfl, o2⟩
    have r2 := o2.blk (o1.blk (Blk.new w 4 #[.bool false]) (by simp)) (by simp)
    have c0 := r2.cell 0
    have f0 := r2.frozen 0
    simp at c0
    go_wp2_with (fail)
    refine ⟨.bool true, by simp [results, Try.results4, go_sem, c0], rfl, ?_⟩
    exact ((((Only.refl [] w).alloc _).trans o1 (fun _ h => by simp at h)).trans o2 (fun _ h => by simp at h)).setCell (.inr (Nat.le_refl _)) _
  · have hL : (L.length : Int) ≤ 300 := by omega
    clear hfew hl
    obtain ⟨N, hN, hN1, hN2⟩ : ∃ N : Nat, 1 + room % 9 = (N : Int) ∧ 1 ≤ N ∧ N ≤ 9 := ⟨(1 + room % 9).toNat, by omega, by omega, by omega⟩
    refine calls_marks Try.func4 rfl ?_
    simp only [Try.ntmps4, List.size_toArray, List.length_cons, List.length_nil, Nat.reduceAdd, Nat.reduceSub, Array.replicate_succ, Array.replicate_zero, List.push_toArray, List.append_toArray, List.nil_append, List.cons_append]
    go_wp2_with (fail)
    refine (awake_any _).mono ?_; rintro e w1 ⟨rfl, o1⟩
    go_wp2_with (fail)
    refine (new_ok N _ (by omega) (by omega)).mono ?_; rintro e w2 ⟨rfl, q2, o2⟩
    have Q2 := Lib.hid q2
    have P2 := Lib.hid hN
    have s1 := o1.size
    have hb2 := q2.lt
    clear q2 hN
    go_wp2_with (fail)
    have R2 := (o2.blk (o1.blk (Blk.new w 4 #[.bool false]) (by simp)) (by simp))
    have s0 : w.heap.size + 1 ≤ w1.heap.size := by simpa using s1
    have s2 := o2.size
    have p0 : PInv w ((w2.alloc (Obj.cells #[Value.int IntKind.i64 ↑N, Value.slice none 0 0] 38)).alloc (Obj.cells #[Value.pointer (some { block := w2.heap.size, off := 0 })] 35)) w.heap.size (w2.heap.size + 1) w2.heap.size N w1.heap.size w1.heap.size w2.heap.size [] [] := by
      refine ⟨Q2.out.only (((Only.refl [] w2).alloc _).alloc _) (by simp) (by simp), ⟨none, 0, 0, #[], (Blk.new _ _ _).alloc _, fun h => by simp at h, by simp⟩, by have := Blk.new (w2.alloc (Obj.cells #[Value.int IntKind.i64 ↑N, Value.slice none 0 0] 38)) 35 #[.pointer (some ⟨w2.heap.size, 0, none⟩)]; simpa using this, (R2.alloc _).alloc _,
        (((((Only.refl [] w).alloc _).trans o1 (fun _ h => by simp at h)).trans o2 (fun _ h => by simp at h)).alloc _).alloc _, by simp; omega, by simp; omega, by omega, by omega, by omega, by omega, by omega, by omega, by omega, by omega, by omega, by simp; omega, by simp, by simp; omega, by simp; omega, by omega, by omega⟩
    have P0 := Lib.hid p0
    clear p0 R2
    go_loopw [6, 9] (fun q i wr => ∃ k b rb rbr : Nat, ∃ xs, i = .int .i64 k ∧ q = .pointer (some ⟨b, 0, none⟩) ∧ k ≤ L.length ∧ PInv w wr w.heap.size (w2.heap.size + 1) w2.heap.size N b rb rbr xs xs) (fun _ i _ => L.length - (intOf i).toNat)
    case atStart => exact ⟨0, _, _, _, [], rfl, rfl, by omega, P0.out⟩
    case round =>
      obtain ⟨k, b, rb, rbr, xs, rfl, rfl, hk, p⟩ := hrel
      have PP := Lib.hid p
      have cM := p.2.2.1.cell 0
      have hxl := p.1.len
      simp at cM
      by_cases hlt : k < L.length
      · obtain ⟨lb, lo, rfl, hd0, hd1, cd, cx⟩ := acts_at HA.out p.2.2.2.2.1 (by simp) hlt
        generalize L[k].1 = d at cd hd0 hd1
        generalize L[k].2 = x at cx
        clear p
        by_cases h01 : d % 5 < 2
        · rcases (show d % 5 = 0 ∨ d % 5 = 1 by omega) with h5 | h5
          all_goals
            by_cases hf : xs.length = N
            · go_wp2_with (fail)
              go_region_held3 (fun w' => w'.cell? ⟨w2.heap.size + 1, 0, none⟩ = some (.pointer (some ⟨w2.heap.size, 0, none⟩))) (first | (go_keep; done) | (go_simp; done))
                (first | (go_at_call 9; refine (push_full (PP.out.1.drewN _) hf _).mono ?_; rintro e w3 ⟨rfl, n, rfl⟩) | (go_at_call 12; refine (rpush_full (PP.out.2.1.only ((Only.refl [] _).drewN _) (by simp) (by simp)) hf _).mono ?_; rintro e w3 ⟨rfl, n2, rfl⟩))
              have p3 := PP.out.keep ((Only.refl [] _).drewN (1 + n + n2))
              generalize wr.drewN (1 + n + n2) = w3 at p3 ⊢
              have P3 := Lib.hid p3
              have cM3 := p3.mcell
              obtain ⟨Ar3, cr3, cI3⟩ := p3.rcell
              clear p3
              go_wp2_with (fail)
              go_quiet ((go_at_call 10; exact Calls.quiet_of_same ((len_any (P3.out.1.drewN _)).mono fun _ _ ⟨h1, h2⟩ => ⟨h1, h2.symm⟩)))
              go_wp2_with (fail)
              go_roundw
              case rel => exact ⟨k + 1, _, _, _, _, by go_num, rfl, by omega, P3.out.keep ((Only.refl [] _).drewN _)⟩
              case measure => simp [intOf]; omega
            · have hlt2 : xs.length < N := by omega
              go_wp2_with (fail)
              go_region_held3 (fun w' => w'.cell? ⟨w2.heap.size + 1, 0, none⟩ = some (.pointer (some ⟨w2.heap.size, 0, none⟩))) (first | (go_keep; done) | (go_simp; done))
                (first | (go_at_call 9; refine (push_ok (PP.out.1.drewN _) hlt2 x).mono ?_; rintro e w3 ⟨rfl, rb', hrb', q3, o3⟩; have p3 := (PP.out.keep ((Only.refl [] _).drewN 1)).q_step q3 o3 hrb' (q3.rb_lt (by simp)); have P3 := Lib.hid p3; have cM3 := p3.mcell; clear p3 q3) | (go_at_call 12; refine (rpush_ok P3.out.2.1 hlt2 (by omega) x).mono ?_; rintro e w4 ⟨rfl, rbr', hrbr', q4, o4⟩; have p4 := P3.out.r_step q4 o4 (.inr hrbr') (q4.rb_lt (by simp)); have P4 := Lib.hid p4; have cM4 := p4.mcell; obtain ⟨Ar4, cr4, cI4⟩ := p4.rcell; clear p4 q4))
              go_wp2_with (fail)
              go_quiet ((go_at_call 10; exact Calls.quiet_of_same ((len_any (P4.out.1.drewN _)).mono fun _ _ ⟨h1, h2⟩ => ⟨h1, h2.symm⟩)))
              go_wp2_with (fail)
              go_roundw
              case rel => exact ⟨k + 1, _, _, _, _, by go_num, rfl, by omega, P4.out.keep ((Only.refl [] _).drewN _)⟩
              case measure => simp [intOf]; omega
        · by_cases h2 : d % 5 = 2
          · cases xs with
            | nil =>
              go_wp2_with (fail)
              refine (pop_none PP.out.1).mono ?_; rintro e w3 ⟨rfl, o3⟩
              have p3 := PP.out.keep o3
              have P3 := Lib.hid p3
              have cM3 := p3.mcell
              obtain ⟨Ar, cr, cI3⟩ := p3.rcell
              clear p3
              go_wp2_with (fail)
              refine (rpop_none P3.out.2.1).mono ?_; rintro e w4 ⟨rfl, rfl⟩
              go_wp2_with (fail)
              go_quiet ((go_at_call 10; exact Calls.quiet_of_same ((len_any (P3.out.1.drewN _)).mono fun _ _ ⟨h1, h2⟩ => ⟨h1, h2.symm⟩)))
              go_wp2_with (fail)
              go_roundw
              case rel => exact ⟨k + 1, b, rb, rbr, [], by go_num, rfl, by omega, P3.out.keep ((Only.refl [] w3).drewN _)⟩
              case measure => simp [intOf]; omega
            | cons y ys =>
              simp at hxl
              go_wp2_with (fail)
              refine (pop_some PP.out.1).mono ?_; rintro e w3 ⟨rfl, q3, o3⟩
              have s3 := o3.size
              have p3 := PP.out.q_step q3 o3 (.inl rfl) (by have := PP.out.2.2.2.2.2.1; omega)
              have P3 := Lib.hid p3
              have cM3 := p3.mcell
              clear p3 q3
              go_wp2_with (fail)
              refine (rpop_some P3.out.2.1 (by omega)).mono ?_; rintro e w4 ⟨rfl, q4, o4⟩
              have s4 := o4.size
              have p4 := P3.out.r_step q4 o4 (.inl rfl) (by have := P3.out.2.2.2.2.2.2.1; omega)
              clear q4
              have P4 := Lib.hid p4
              have cM4 := p4.mcell
              obtain ⟨Ar4, cr4, cI4⟩ := p4.rcell
              clear p4
              go_wp2_with (fail)
              go_quiet ((go_at_call 10; exact Calls.quiet_of_same ((len_any (P4.out.1.drewN _)).mono fun _ _ ⟨h1, h2⟩ => ⟨h1, h2.symm⟩)))
              go_wp2_with (fail)
              go_roundw
              case rel => exact ⟨k + 1, _, _, _, _, by go_num, rfl, by omega, P4.out.keep ((Only.refl [] _).drewN _)⟩
              case measure => simp [intOf]; omega
          · by_cases h3 : d % 5 = 3
            · cases xs with
              | nil =>
                go_wp2_with (fail)
                refine (peek_none PP.out.1).mono ?_; rintro e w3 ⟨rfl, o3⟩
                have p3 := PP.out.keep o3
                have P3 := Lib.hid p3
                have cM3 := p3.mcell
                obtain ⟨Ar3, cr3, cI3⟩ := p3.rcell
                clear p3
                go_wp2_with (fail)
                go_quiet ((go_at_call 10; exact Calls.quiet_of_same ((len_any (P3.out.1.drewN _)).mono fun _ _ ⟨h1, h2⟩ => ⟨h1, h2.symm⟩)))
                go_wp2_with (fail)
                go_roundw
                case rel => exact ⟨k + 1, _, _, _, _, by go_num, rfl, by omega, P3.out.keep ((Only.refl [] _).drewN _)⟩
                case measure => simp [intOf]; omega
              | cons y ys =>
                simp at hxl
                go_wp2_with (fail)
                refine (peek_some PP.out.1).mono ?_; rintro e w3 ⟨rfl, n, rfl⟩
                have p3 := PP.out.keep ((Only.refl [] _).drewN n)
                generalize wr.drewN n = w3 at p3 ⊢
                obtain ⟨Ag, capg, offg, csg, g1, g2, g3⟩ := p3.2.1
                obtain ⟨rfl, g4, g5⟩ := g2 (by simp)
                have cg := g4.cell offg
                have hx := g5 0 y (by simp)
                rw [Nat.add_zero] at hx
                rw [hx] at cg
                have cI3 := g1.cell 1
                simp at cI3 cg
                have P3 := Lib.hid p3
                have cM3 := p3.mcell
                clear p3 g1 g2 g4 g5 hx
                go_wp2_with (fail)
                go_quiet ((go_at_call 10; exact Calls.quiet_of_same ((len_any (P3.out.1.drewN _)).mono fun _ _ ⟨h1, h2⟩ => ⟨h1, h2.symm⟩)))
                go_wp2_with (fail)
                go_roundw
                case rel => exact ⟨k + 1, _, _, _, _, by go_num, rfl, by omega, P3.out.keep ((Only.refl [] _).drewN _)⟩
                case measure => simp [intOf]; omega
            · have h4 : d % 5 = 4 := by omega
              go_wp2_with (fail)
              refine (copy_any PP.out.1).mono ?_; rintro e w3 ⟨b', rc, rfl, hb', hrc, hrc2, q3, o3⟩
              have s3 := o3.size
              have hb3 := q3.lt
              have p3 := PP.out.keep o3
              have P3 := Lib.hid p3
              have C3 := Lib.hid q3
              clear p3 q3
              have n1 := PP.out.2.2.2.2.2
              go_wp2_with (fail)
              refine (push_all P3.out.1 (by omega) hN1 x).mono ?_; rintro e w4 ⟨v4, rfl, rb4, y4, ys4, hr4, hr4b, q4, o4⟩
              have s4 := o4.size
              have p4 := P3.out.q_step q4 o4 hr4 hr4b
              have c4 := C3.out.only o4 (by simp; omega) (by simp; omega)
              have P4 := Lib.hid p4
              have C4 := Lib.hid c4
              clear p4 c4 q4
              go_wp2_with (fail)
              refine (pop_some P4.out.1).mono ?_; rintro e w5 ⟨rfl, q5, o5⟩
              have s5 := o5.size
              have p5 := P4.out.q_step q5 o5 (.inl rfl) (by omega)
              have c5 := C4.out.only o5 (by simp; omega) (by simp; omega)
              have p6 := PInv.swap p5 c5 (by omega) (by omega) (by omega) (by omega) (by omega) (by omega) (by omega) (by omega) (by omega) (by omega) (by omega)
              clear p5 c5 q5
              have P6 := Lib.hid p6
              have cM6 := p6.mcell
              obtain ⟨Ar6, cr6, cI6⟩ := p6.rcell
              clear p6 n1
              go_wp2_with (fail)
              go_quiet ((go_at_call 10; exact Calls.quiet_of_same ((len_any (P6.out.1.drewN _)).mono fun _ _ ⟨h1, h2⟩ => ⟨h1, h2.symm⟩)))
              go_wp2_with (fail)
              go_roundw
              case rel => exact ⟨k + 1, _, _, _, _, by go_num, rfl, by omega, P6.out.keep ((Only.refl [] _).drewN _)⟩
              case measure => simp [intOf]; omega
      · have n1 := PP.out.2.2.2.2.2
        have hroom2 := PP.out.1.room
        clear p
        go_wp2_with (fail)
        refine (all_any _ _ rfl _).mono ?_; rintro e w3 ⟨rfl, rfl⟩
        go_wp2_with (fail)
        have H3 := Lib.hid n1
        have hO3 : Only [] wr ((wr.alloc (Obj.cells #[.int .i64 0] 3)).alloc (Obj.cells #[Value.pointer (some { block := b, off := 0 })] 24)) := ((Only.refl [] wr).alloc _).alloc _
        refine wp_rangeFunc_seqs (gf := 22) (lb := #[.pointer (some ⟨wr.heap.size + 1, 0, none⟩)]) (vs := pairs xs) rfl (enters Try.func22 (by kernel_rfl) rfl)
          (all_seqs (b := b) (rb := rb) (room := N) (PP.out.1.only hO3 (by simp) (by simp)) (by have := Blk.new (wr.alloc (Obj.cells #[.int .i64 0] 3)) 24 #[.pointer (some ⟨b, 0, none⟩)]; simpa using this))
          (by intro v hv; simp [pairs] at hv; obtain ⟨k, _, rfl⟩ := hv; rfl) [wr.heap.size] (by simp; omega) (by simp)
          (fun k S W => Blk W wr.heap.size 3 #[.int .i64 (k : Int)] ∧ PInv w W w.heap.size (w2.heap.size + 1) w2.heap.size N b rb rbr xs xs ∧ S = [wr.heap.size] ∧ wr.heap.size < W.heap.size)
          (fun _ _ => False) ?hI (fun _ _ _ h _ => h) ?h0 ?a1 ?assign ?body ?done (fun _ _ _ _ h _ => h.elim)
        case assign =>
          intro l k v W K hv hK
          obtain ⟨hk, rfl⟩ : k < xs.length ∧ #[.int .i64 (k : Int), .int .i64 (xs[k]?.getD 0)] = v := by
            obtain ⟨i, hi, h⟩ := by simpa [pairs] using hv
            have := List.getElem?_eq_some_iff.1 hi
            simp at this
            exact ⟨this.1, by rw [this.2]; exact h⟩
          clear hk hv
          gi_wp2
          exact hK
        case hI =>
          rintro k S W1 W2 ⟨h1, h2, h3, h4⟩ hk
          exact ⟨hk.blk h1, h2.keepC hk (by simp; omega), h3, Nat.lt_of_lt_of_le h4 hk.size⟩
        case h0 => exact ⟨(Blk.new _ _ _).alloc _, PP.out.keep hO3, rfl, by simp; omega⟩
        case body =>
          rintro l k v S W hv ⟨hb, hp, rfl, hs⟩
          have hk : k < xs.length := by
            obtain ⟨i, hi, h⟩ := by simpa [pairs] using hv
            have := List.getElem?_eq_some_iff.1 hi
            simp at this
            exact this.1
          have c0 := hb.cell 0
          have f0 := hb.frozen 0
          have cM' := hp.mcell
          obtain ⟨Ag, capg, offg, csg, g1, g2, g3⟩ := hp.2.1
          obtain ⟨rfl, g4, g5⟩ := g2 (by omega)
          have cg := g4.cell (offg + k)
          obtain ⟨x, hx⟩ : ∃ x, xs[k]? = some x := ⟨_, List.getElem?_eq_getElem hk⟩
          rw [g5 k x hx] at cg
          have cI := g1.cell 1
          simp at c0 cI
          have hx' : xs[k]?.getD 0 = x := by rw [hx]; rfl
          have t1 : (k : Int) < (xs.length : Int) := by omega
          have t2 : ¬ (xs.length : Int) ≤ (k : Int) := by omega
          have t3 : (k : Int) ≤ 1048576 := by omega
          have t4 : decide ((xs.length : Int) ≤ (k : Int)) = false := by simp; omega
          have t5 : decide (xs.length ≤ k) = false := by simp; omega
          have Hb := Lib.hid hb
          have Hp := Lib.hid hp
          have Hs := Lib.hid hs
          clear hb hp g1 g2 g4 g5 hx hv hs
          rw [hx']
          clear hx' hk
          gi_wp2
          refine wpIn_round_quiet (by kernel_rfl) (by kernel_rfl) (by kernel_rfl) (fun _ _ h => h) ?_
          repeat (first | go_big_quiet_step (fail) | quiet_step (fail))
          refine wpQuiet_nil ?_
          intro _ hw'
          obtain ⟨nq, hw''⟩ := hw'
          subst hw''
          gi_wp2
          have hO : Only [wr.heap.size] W ((W.setCell ⟨wr.heap.size, 0, none⟩ (.int .i64 ((k : Int) + 1))).drewN nq) := (only_setCell W ⟨wr.heap.size, 0, none⟩ _).drewN nq
          refine ⟨⟨[wr.heap.size], ⟨(Hb.out.set_ 0 _).drewN nq, Hp.out.keep1 hO trivial ?_, rfl, ?_⟩, ?_⟩, hO⟩
          · omega
          · have := hO.size; have := Hs.out; omega
          · simp
        case done =>
          rintro D S W hD ⟨hb, hp, rfl, hs⟩ hK
          have c0 := hb.cell 0
          have cM' := hp.mcell
          obtain ⟨Ag, capg, cI⟩ := hp.rcell
          have cR := hp.2.2.2.1.cell 0
          have fR := hp.2.2.2.1.frozen 0
          have e1 : (pairs xs).length = xs.length := by simp [pairs]
          rw [e1] at c0
          simp at c0 cR
          have Hp := Lib.hid hp
          have HK := Lib.hid hK
          clear hb hp hK
          go_wp2_with (fail)
          go_region
          go_wp2_with (fail)
          have hO : Only [w.heap.size] W ((W.setCell ⟨w.heap.size, 0, none⟩ (.bool true)).drewN 1) := (only_setCell W ⟨w.heap.size, 0, none⟩ _).drewN 1
          have hR : ((W.setCell ⟨w.heap.size, 0, none⟩ (.bool true)).drewN 1).cell? ⟨w.heap.size, 0, none⟩ = some (.bool true) := World.cell?_setCell_same _ _ _ cR
          simp at hD
          have hKD := (hO.block D (Array.getElem?_eq_some_iff.1 HK.out).1 (by simp; omega)).trans HK.out
          refine ⟨by simp, .inl ⟨_, _, rfl, run_takeDeferred hKD, ?_⟩⟩
          have hkk : KeepC D ((W.setCell ⟨w.heap.size, 0, none⟩ (.bool true)).drewN 1) (((W.setCell ⟨w.heap.size, 0, none⟩ (.bool true)).drewN 1).putObj D (.deferred none)) := KeepC.putObj hKD rfl (Nat.le_refl _)
          have hw : Only [] w ((W.setCell ⟨w.heap.size, 0, none⟩ (.bool true)).drewN 1) := Hp.out.2.2.2.2.1.trans hO (fun x hx => .inr (by simp at hx; omega))
          exact ⟨.bool true, res4 _ ⟨w.heap.size, 0, none⟩ rfl _ (hkk.cell hR), rfl, hw.keepC hkk (by omega)⟩

end Go.Proofs.Ytdneihlpdnhhnaa
