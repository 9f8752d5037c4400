import Derived.Test.YtlhmhpopppfpkaaQu2
namespace Go.Proofs.Ytlhmhpopppfpkaa
open Go.RowKit Go.Kx

set_option maxHeartbeats 400000 in
theorem push_full {b rb room : Nat} {xs : List Int} {w : World} (h : Qu w b rb room xs) (hr : xs.length = room) (x : Int) :
    Calls Try.prog 21 #[.pointer (some ⟨b, 0, none⟩), .int .i64 x] w fun e w' => e = .returned (.int .i64 14) ∧ ∃ n, w' = w.drewN n := by
  obtain ⟨ra, len, first, cs, h1, h2, h3, h4⟩ := h
  subst hr
  have c0 := h1.cell 0
  have c3 := h1.cell 3
  simp at c0 c3
  clear h1 h2 h3 h4
  go_enter Try.func21, Try.ntmps21
  go_wp2
  go_quiet (fail)
  go_wp2
  go_ret
  exact ⟨rfl, _, rfl⟩

theorem QI_push {cs : Array Value} {len : Nat} {first : Int} {x : Int} {xs : List Int} (h : QI cs len first xs) (h0 : 0 ≤ first) (h1 : first < len) (hl : xs.length < len) :
    QI (cs.setIfInBounds ((first + xs.length) % len).toNat (.int .i64 x)) len first (xs ++ [x]) := by
  obtain ⟨ha, hb, hc⟩ := h
  refine ⟨by simp; omega, by simpa using hb, fun i y hy => ?_⟩
  rcases Nat.lt_or_ge i xs.length with hi | hi
  · rw [List.getElem?_append_left hi] at hy
    have := hc i y hy
    rcases emod_cases (first + i) len (by omega) (by omega) with ⟨q, e1⟩ | ⟨q, e1⟩ <;> rcases emod_cases (first + xs.length) len (by omega) (by omega) with ⟨q2, e2⟩ | ⟨q2, e2⟩ <;>
      rw [e1] at this ⊢ <;> rw [e2] <;> rw [Array.getElem?_setIfInBounds_ne (by omega)] <;> exact this
  · have hi2 : i < (xs ++ [x]).length := (List.getElem?_eq_some_iff.1 hy).1
    simp at hi2
    obtain rfl : i = xs.length := by omega
    simp at hy
    subst hy
    have hm := Int.emod_lt_of_pos (first + xs.length) (b := len) (by omega)
    have hm0 := Int.emod_nonneg (first + xs.length) (b := len) (by omega)
    rw [Array.getElem?_setIfInBounds_self_of_lt (by omega)]

set_option maxHeartbeats 1000000 in
theorem push_fit {b room : Nat} {xs : List Int} {w : World} {rb len : Nat} {first : Int} {cs : Array Value} (h1 : QB w b room (some ⟨rb, 0, none⟩) len first xs.length) (h2 : Blk w rb 3 cs) (h3 : QI cs len first xs)
    (h4 : len ≤ room ∧ room ≤ 1048576 ∧ 0 ≤ first ∧ (first < len ∨ first = 0)) (hl : xs.length < len) (x : Int) :
    Calls Try.prog 21 #[.pointer (some ⟨b, 0, none⟩), .int .i64 x] w fun e w' => e = .returned (.int .i64 0) ∧ Qu w' b rb room (xs ++ [x]) ∧ Only [b, rb] w w' := by
  have c0 := h1.cell 0
  have c1 := h1.cell 1
  have c2 := h1.cell 2
  have c3 := h1.cell 3
  have f3 := h1.frozen 3
  have lb := h1.lt
  have lrb := h2.lt
  have hne : b ≠ rb := h1.ne_ h2 (by decide)
  have hne' : rb ≠ b := fun e => hne e.symm
  have fr := h2.frozen ((first + xs.length) % len).toNat
  have hm := Int.emod_lt_of_pos (first + xs.length) (b := len) (by omega)
  have hm0 := Int.emod_nonneg (first + xs.length) (b := len) (by omega)
  obtain ⟨v, cr⟩ := h2.cell_some (i := ((first + xs.length) % len).toNat) (by have := h3.2.1; omega)
  have t1 : (((xs.length : Nat) : Int) == (room : Int)) = false := by simp; omega
  have t2 : (((xs.length : Nat) : Int) == (len : Int)) = false := by simp; omega
  have t3 : 0 ≤ first := h4.2.2.1
  have t4 : first < len := by omega
  have t5 : len ≤ 1048576 := by omega
  simp at c0 c1 c2 c3
  have H1 := Lib.hid h1
  have H2 := Lib.hid h2
  have H3 := Lib.hid h3
  have H4 := Lib.hid h4
  clear h1 h2 h3 h4
  go_enter Try.func21, Try.ntmps21
  go_wp2
  go_quiet (fail)
  go_wp2
  go_quiet (fail)
  go_wp2
  go_region_held3 (fun w' => w'.cell? ⟨b, 1, none⟩ = some (.slice (some ⟨rb, 0, none⟩) len len) ∧ w'.cell? ⟨b, 3, none⟩ = some (.int .i64 xs.length)) (go_keep) (first | (go_at_call 31; refine (place_any ((H1.out).drewN _) (by omega) (by omega) (by omega) (by omega) (by omega) (by omega)).mono ?_; rintro e w' ⟨rfl, m, rfl⟩))
  all_goals go_wp2_with (fail)
  all_goals go_ret
  all_goals refine ⟨rfl, ?_, ((((Only.refl _ w).setCell (by simp) _).setCell (by simp) _)).drewN _⟩
  all_goals exact ⟨_, len, _, _, by rw [List.length_append]; exact ((Blk.far H1.out hne _).set_ 3 _).drewN _, fun _ => ⟨rfl, ((Blk.set_ H2.out _ _).far hne' _).drewN _⟩, QI_push H3.out t3 t4 hl, H4.out.1, H4.out.2.1, t3, .inl t4⟩


theorem QI_items {os : Array Value} {N : Nat} {xs : List Int} (h1 : os.size = N) (h2 : ∀ (i : Nat) x, xs[i]? = some x → os[i]? = some (.int .i64 x)) (hN : xs.length ≤ N) : QI os N 0 xs := by
  refine ⟨hN, h1, fun i x hx => ?_⟩
  have hi : i < xs.length := (List.getElem?_eq_some_iff.1 hx).1
  rw [Int.zero_add, Int.emod_eq_of_lt (by omega) (by omega)]
  exact h2 i x hx

theorem grow_size (n room : Nat) (h : n ≤ 1048576) (hr : room ≤ 1048576) (hlt : n < room) : ∃ N : Nat, (if IntKind.i64.wrap (IntKind.i64.wrap (2 * (n : Int)) + 4) < (room : Int) then IntKind.i64.wrap (IntKind.i64.wrap (2 * (n : Int)) + 4) else (room : Int)) = (N : Int) ∧ n < N ∧ N ≤ room := by
  have e1 : IntKind.i64.wrap (2 * (n : Int)) = 2 * n := IntWalk.i64_in _ (by omega)
  have e2 : IntKind.i64.wrap (2 * (n : Int) + 4) = 2 * n + 4 := IntWalk.i64_in _ (by omega)
  rw [e1, e2]
  by_cases hh : 2 * (n : Int) + 4 < room
  · exact ⟨2 * n + 4, by rw [if_pos hh]; omega, by omega, by omega⟩
  · exact ⟨room, by rw [if_neg hh], by omega, by omega⟩

set_option maxHeartbeats 1000000 in
theorem push_grow {b room : Nat} {xs : List Int} {w : World} {rb len : Nat} {ra : Option Addr} {first : Int} {cs : Array Value} (h1 : QB w b room ra len first xs.length)
    (hra : 0 < len → ra = some ⟨rb, 0, none⟩ ∧ Blk w rb 3 cs) (h3 : QI cs len first xs)
    (h4 : len ≤ room ∧ room ≤ 1048576 ∧ 0 ≤ first ∧ (first < len ∨ first = 0)) (hl : xs.length = len) (hr : len < room) (x : Int) :
    Calls Try.prog 21 #[.pointer (some ⟨b, 0, none⟩), .int .i64 x] w fun e w' => e = .returned (.int .i64 0) ∧ ∃ rb', w.heap.size ≤ rb' ∧ Qu w' b rb' room (xs ++ [x]) ∧ Only [b, rb] w w' := by
  subst hl
  have c0 := h1.cell 0
  have c1 := h1.cell 1
  have c3 := h1.cell 3
  have lb := h1.lt
  have t1 : (((xs.length : Nat) : Int) == (room : Int)) = false := by simp; omega
  have t3 : 0 ≤ first := h4.2.2.1
  have t5 : xs.length ≤ 1048576 := by omega
  have t6 : room ≤ 1048576 := by omega
  simp at c0 c1 c3
  have H1 := Lib.hid h1
  have Hra := Lib.hid hra
  have H3 := Lib.hid h3
  have H4 := Lib.hid h4
  clear h1 hra h3 h4
  go_enter Try.func21, Try.ntmps21
  go_wp2
  go_quiet (fail)
  go_wp2
  go_quiet (fail)
  go_wp2
  obtain ⟨N, eN, n1, n2⟩ := grow_size xs.length room (by omega) t6 hr
  go_region_held3 (fun w' => w'.cell? ⟨b, 0, none⟩ = some (.int .i64 room) ∧ w'.cell? ⟨b, 3, none⟩ = some (.int .i64 xs.length)) (first | (go_keep; done) | (refine ⟨?_, ?_⟩ <;> (go_simp; done))) (first | (go_at_call 30; refine (items_any ((H1.out).drewN _) (fun h => ⟨(Hra.out h).1, ((Hra.out h).2).drewN _⟩) H3.out (by omega) (by omega) (by have := H4.out; omega) (by omega) (by omega)).mono ?_; rintro e w' ⟨os, rfl, ho, hos, hsz, hos2⟩; have q := ho.blk ((H1.out).drewN _) (by simp); have g0 := q.cell 0; have g3 := q.cell 3; have g1 := q.cell 1; have k1 := q.frozen 1; simp at g0 g1 g3 k1))
  have Hq := Lib.hid q
  have g2 := q.cell 2
  have k2 := q.frozen 2
  have k3 := q.frozen 3
  simp at g2
  simp only [World.heap_drewN] at hos
  have kr := hos.frozen xs.length
  obtain ⟨v, cr⟩ := hos.cell_some (i := xs.length) (by omega)
  have hne : b ≠ w.heap.size := by omega
  have hne' : w.heap.size ≠ b := by omega
  have t8 : (xs.length : Int) % (N : Int) = xs.length := by rw [Int.emod_eq_of_lt (by omega) (by omega)]
  have t9 : (xs.length : Int) < (N : Int) := by omega
  clear q c0 c1 c3
  go_wp2_with (fail)
  go_region_held3 (fun w' => w'.cell? ⟨b, 1, none⟩ = some (.slice (some ⟨w.heap.size, 0, none⟩) N N) ∧ w'.cell? ⟨b, 3, none⟩ = some (.int .i64 xs.length)) (first | (go_keep; done) | (refine ⟨?_, ?_⟩ <;> (go_simp; done)))
    (first | (go_at_call 31; refine (place_any (first := 0) (len := N) (((Blk.set_ Hq.out 1 _).set_ 2 _).drewN _) (by omega) (by omega) (by omega) (by omega) (by omega) (by omega)).mono ?_; rintro e w'' ⟨rfl, m, rfl⟩))
  go_wp2_with (fail)
  go_ret
  have hi := QI_push (x := x) (QI_items hsz hos2 (by omega)) (by omega) (by omega) n1
  rw [Int.zero_add, t8, Int.toNat_natCast] at hi
  refine ⟨rfl, w.heap.size, Nat.le_refl _, ⟨_, N, _, _, by rw [List.length_append]; exact ((((Hq.out.set_ 1 _).set_ 2 _).far hne _).set_ 3 _).drewN _, fun _ => ⟨rfl, ((((hos.far hne' _).far hne' _).set_ _ _).far hne' _).drewN _⟩, hi, by omega, t6, by omega, .inr rfl⟩, ?_⟩
  exact ((((((Only.refl [] w).drewN _).trans ho (fun _ h => by simp at h)).mono (fun _ h => by simp at h) |>.setCell (by simp) _).setCell (by simp) _ |>.setCell (.inr (Nat.le_refl _)) _).setCell (by simp) _).drewN _

theorem push_ok {b rb room : Nat} {xs : List Int} {w : World} (h : Qu w b rb room xs) (hr : xs.length < room) (x : Int) :
    Calls Try.prog 21 #[.pointer (some ⟨b, 0, none⟩), .int .i64 x] w fun e w' => e = .returned (.int .i64 0) ∧ ∃ rb', (rb' = rb ∨ w.heap.size ≤ rb') ∧ Qu w' b rb' room (xs ++ [x]) ∧ Only [b, rb] w w' := by
  obtain ⟨ra, len, first, cs, h1, h2, h3, h4⟩ := h
  have hl := h3.1
  rcases Nat.lt_or_ge xs.length len with h | h
  · obtain ⟨rfl, h2'⟩ := h2 (by omega)
    exact (push_fit h1 h2' h3 h4 h x).mono fun e w' ⟨he, hq, ho⟩ => ⟨he, rb, .inl rfl, hq, ho⟩
  · exact (push_grow h1 h2 h3 h4 (by omega) (by omega) x).mono fun e w' ⟨he, rb', hb, hq, ho⟩ => ⟨he, rb', .inr hb, hq, ho⟩

set_option maxHeartbeats 1000000 in
theorem copy_any {b rb room : Nat} {xs : List Int} {w : World} (h : Qu w b rb room xs) :
    Calls Try.prog 23 #[.pointer (some ⟨b, 0, none⟩)] w fun e w' => ∃ b' rb', e = .returned (.pointer (some ⟨b', 0, none⟩)) ∧ w.heap.size ≤ b' ∧ w.heap.size ≤ rb' ∧ rb' < w'.heap.size ∧ Qu w' b' rb' room xs ∧ Only [] w w' := by
  have hx := h.len
  obtain ⟨ra, len, first, cs, h1, h2, h3, h4⟩ := h
  have c0 := h1.cell 0
  have c3 := h1.cell 3
  have lb := h1.lt
  simp at c0 c3
  have H1 := Lib.hid h1
  have H2 := Lib.hid h2
  have H3 := Lib.hid h3
  have H4 := Lib.hid h4
  clear h1 h2 h3 h4
  go_enter Try.func23, Try.ntmps23
  go_wp2
  go_region_held3 (fun w' => w'.cell? ⟨b, 0, none⟩ = some (.int .i64 room) ∧ w'.cell? ⟨b, 3, none⟩ = some (.int .i64 xs.length)) (first | (go_keep; done) | (refine ⟨?_, ?_⟩ <;> (go_simp; done))) (first | (go_at_call 30; refine (items_any ((H1.out).drewN _) (fun h => ⟨(H2.out h).1, ((H2.out h).2).drewN _⟩) H3.out (by have := H4.out; omega) (by have := H4.out; omega) (by have := H4.out; omega) (by omega) (by have := H4.out; omega)).mono ?_; rintro e w' ⟨os, rfl, ho, hos, hsz, hos2⟩; have q := ho.blk ((H1.out).drewN _) (by simp); have g0 := q.cell 0; have g3 := q.cell 3; have lb' := q.lt; simp at g0 g3))
  all_goals go_wp2_with (fail)
  go_ret
  have hsz' := ho.size
  simp only [World.heap_drewN] at hos hsz'
  exact ⟨w'.heap.size, w.heap.size, rfl, by omega, Nat.le_refl _, by simp; omega, ⟨_, xs.length, 0, os, Blk.new _ _ _, fun _ => ⟨rfl, hos.alloc _⟩, QI_items hsz hos2 (Nat.le_refl _), by omega, by have := H4.out; omega, by omega, .inr rfl⟩,
    (((Only.refl [] w).drewN _).trans ho (fun _ h => by simp at h)).alloc _⟩

end Go.Proofs.Ytlhmhpopppfpkaa
