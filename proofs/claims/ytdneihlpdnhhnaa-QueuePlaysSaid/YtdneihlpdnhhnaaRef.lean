import Derived.Test.YtdneihlpdnhhnaaWalks4
import Derived.Deep.AppendLies
import Derived.Laws.AppendOwnNone
namespace Go.Proofs.Ytdneihlpdnhhnaa
open Go.RowKit Go.Kx

/-- the reference's queue at block b: its items' row at block rb (a cut of it) -/
def RQ (w : World) (b : Nat) (rb : Nat) (room : Nat) (xs : List Int) : Prop :=
  ∃ A cap off cs, Blk w b 38 #[.int .i64 room, .slice A xs.length cap] ∧ (0 < xs.length → A = some ⟨rb, off, none⟩ ∧ Blk w rb 3 cs ∧ ∀ (i : Nat) x, xs[i]? = some x → cs[off + i]? = some (.int .i64 x)) ∧ xs.length ≤ cap

theorem RQ.only {w w' : World} {S : List Nat} {b rb room : Nat} {xs : List Int} (h : RQ w b rb room xs) (ho : Only S w w') (hb : b ∉ S) (hr : rb ∉ S) : RQ w' b rb room xs := by
  obtain ⟨A, cap, off, cs, h1, h2, h3⟩ := h
  exact ⟨A, cap, off, cs, ho.blk h1 hb, fun hl => ⟨(h2 hl).1, ho.blk (h2 hl).2.1 hr, (h2 hl).2.2⟩, h3⟩

set_option maxHeartbeats 400000 in
theorem rpop_none {b rb room : Nat} {w : World} (h : RQ w b rb room []) :
    Calls Try.prog 13 #[.pointer (some ⟨b, 0, none⟩)] w fun e w' => e = .returned (.tuple #[.int .i64 0, .bool false]) ∧ w = w' := by
  obtain ⟨A, cap, off, cs, h1, h2, h3⟩ := h
  have c1 := h1.cell 1
  simp at c1
  clear h1 h2 h3
  go_enter Try.func13, Try.ntmps13
  go_wp2_with (fail)
  go_ret2
  exact ⟨rfl, rfl⟩

set_option maxHeartbeats 400000 in
theorem rpop_some {b rb room : Nat} {x : Int} {xs : List Int} {w : World} (h : RQ w b rb room (x :: xs)) (hl : xs.length ≤ 1048576) :
    Calls Try.prog 13 #[.pointer (some ⟨b, 0, none⟩)] w fun e w' => e = .returned (.tuple #[.int .i64 x, .bool true]) ∧ RQ w' b rb room xs ∧ Only [b] w w' := by
  obtain ⟨A, cap, off, cs, h1, h2, h3⟩ := h
  obtain ⟨rfl, h4, h5⟩ := h2 (by simp)
  have c1 := h1.cell 1
  have f1 := h1.frozen 1
  have cx := h4.cell off
  have hx := h5 0 x (by simp)
  rw [Nat.add_zero] at hx
  rw [hx] at cx
  simp at c1 h3
  have hne := h1.ne_ h4 (by decide)
  have H1 := Lib.hid h1
  have H4 := Lib.hid h4
  have H5 := Lib.hid h5
  clear h1 h2 h4 h5 hx
  go_enter Try.func13, Try.ntmps13
  go_wp2_with (fail)
  all_goals go_ret2
  · refine ⟨rfl, ⟨_, _, off, cs, H1.out.set_ 1 _, fun hx => by omega, by omega⟩, (Only.refl _ w).setCell (by simp) _⟩
  · refine ⟨rfl, ⟨_, _, off + 1, cs, H1.out.set_ 1 _, fun hx => ⟨rfl, H4.out.far (fun e => hne e.symm) _, fun i y hy => ?_⟩, by omega⟩, (Only.refl _ w).setCell (by simp) _⟩
    have := H5.out (i + 1) y (by simpa using hy)
    rwa [show off + (i + 1) = off + 1 + i by omega] at this

set_option maxHeartbeats 400000 in
theorem rpush_full {b rb room : Nat} {xs : List Int} {w : World} (h : RQ w b rb room xs) (hr : xs.length = room) (x : Int) :
    Calls Try.prog 12 #[.pointer (some ⟨b, 0, none⟩), .int .i64 x] w fun e w' => e = .returned (.int .i64 14) ∧ ∃ n, w' = w.drewN n := by
  obtain ⟨A, cap, off, cs, h1, h2, h3⟩ := h
  subst hr
  have c0 := h1.cell 0
  have c1 := h1.cell 1
  simp at c0 c1
  clear h1 h2 h3
  go_enter Try.func12, Try.ntmps12
  go_wp2
  go_quiet (fail)
  go_wp2
  go_ret
  exact ⟨rfl, _, rfl⟩

set_option maxHeartbeats 1000000 in
theorem rpush_ok {b rb room : Nat} {xs : List Int} {w : World} (h : RQ w b rb room xs) (hr : xs.length < room) (hroom : room ≤ 1048576) (x : Int) :
    Calls Try.prog 12 #[.pointer (some ⟨b, 0, none⟩), .int .i64 x] w fun e w' => e = .returned (.int .i64 0) ∧ ∃ rb', w.heap.size ≤ rb' ∧ RQ w' b rb' room (xs ++ [x]) ∧ Only [b] w w' := by
  obtain ⟨A, cap, off, cs, h1, h2, h3⟩ := h
  have c0 := h1.cell 0
  have c1 := h1.cell 1
  simp at c0 c1
  have lb := h1.lt
  have H1 := Lib.hid h1
  have H2 := Lib.hid h2
  clear h1 h2
  go_enter Try.func12, Try.ntmps12
  go_wp2
  go_quiet (fail)
  obtain ⟨v1, w1, hrun1, ho1, hO1, ha1⟩ := run_appendN (P := Try.prog) 36 Try.underlying36 int_info rfl (World.ownsRow_nil (w.drewN nq) 0 3 1) (A := A) (c := cap) (news := xs.map (Value.int .i64))
    (fun j u hu => by
      rw [List.getElem?_map] at hu
      obtain ⟨y, hy, rfl⟩ := Option.map_eq_some_iff.1 hu
      have hj := (List.getElem?_eq_some_iff.1 hy).1
      obtain ⟨rfl, hb, hc⟩ := H2.out (by omega)
      refine ⟨_, rfl, ?_⟩
      have := hb.cell (off + j)
      rw [hc j y hy] at this
      rcases Nat.eq_zero_or_pos j with rfl | hp
      · simpa [Addr.add] using this
      · have e : (⟨rb, off, none⟩ : Addr).add j = ⟨rb, off + j, none⟩ := by simp [Addr.add]; omega
        rw [e]; exact this)
    (by intro u hu; simp at hu; obtain ⟨y, _, rfl⟩ := hu; rfl) (by simp [maxLen]; omega) (by simp; omega)
  rw [List.length_map] at hrun1
  simp only [Nat.zero_add, List.nil_append] at ho1
  have hO1' : Only [] w w1 := ((Only.refl [] w).drewN nq).trans hO1 (fun _ h => by simp [Value.ownBlock] at h)
  obtain ⟨g, cap2, w2, hrun2, ho2, hO2, hg2⟩ := run_append1 (P := Try.prog) 3 36 Try.underlying36 int_info rfl ho1 (.int .i64 x) rfl (by simp [maxLen]; omega) (by simp; omega)
  simp only [List.length_map] at hrun2 ho2 ho1
  have hv1 : ∀ y, v1.ownBlock = some y → w.heap.size ≤ y ∧ y < w1.heap.size := fun y hy => by
    rcases ha1 with h | h
    · rw [hy] at h; simp [Value.ownBlock] at h
    · rw [hy] at h; simp at h; exact ⟨by omega, (ho1.lt y hy).2⟩
  have hb2 : Blk w2 b 38 #[.int .i64 room, .slice A xs.length cap] := hO2.blk (hO1'.blk H1.out (by simp)) (by
    cases h : v1.ownBlock with
    | none => simp
    | some y => have := hv1 y h; simp; omega)
  have d1 := hb2.cell 1
  have e1 := hb2.frozen 1
  simp at d1
  have hg : w.heap.size ≤ g := by
    rcases hg2 with h | h
    · exact (hv1 g h).1
    · have := hO1'.size; omega
  have hO : Only [] w w2 := hO1'.trans hO2 (fun y hy => .inr (by simp at hy; exact (hv1 y hy).1))
  have Hb2 := Lib.hid hb2
  have Ho2 := Lib.hid ho2
  have HO := Lib.hid hO
  clear hb2 ho2 hO ho1 hO1 hO1' hO2 ha1 hg2 hv1
  go_wp2_with (at_builtin; first | refine wpList_append_run hrun1 rfl _ _ rfl rfl rfl rfl ?_ | refine wpList_append_run hrun2 rfl _ _ rfl rfl rfl rfl ?_)
  go_ret
  refine ⟨rfl, g, hg, ?_, (HO.out.mono (fun _ h => by simp at h)).setCell (by simp) _⟩
  obtain ⟨_, h | ⟨g', cap', cur, h, _, hh, hc1, hc2, hsz, ht⟩⟩ := Ho2.out
  · cases h.1
  · cases h
    have hgb : g ≠ b := by omega
    refine ⟨_, _, 0, cur, by rw [List.length_append]; exact Hb2.out.set_ 1 _, fun _ => ⟨rfl, Blk.far (t := 3) hh hgb _, fun i y hy => ?_⟩, by simp; omega⟩
    have hi := (List.getElem?_eq_some_iff.1 hy).1
    simp at hi
    rw [Nat.zero_add]
    have : (cur.toList.take ((xs.length + 1) * 1))[i]? = ((xs ++ [x]).map (Value.int .i64))[i]? := by rw [ht]; simp
    rw [List.getElem?_take, if_pos (by omega), List.getElem?_map, hy] at this
    simpa using this

end Go.Proofs.Ytdneihlpdnhhnaa
