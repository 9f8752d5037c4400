import Derived.Test.YtlhmhpopppfpkaaQu3
import Derived.Test.YtlhmhpopppfpkaaRange
namespace Go.Proofs.Ytlhmhpopppfpkaa
open Go.RowKit Go.Kx
attribute [local go_sem] Oper.semAt_some

set_option maxHeartbeats 400000 in
theorem all_any (v : Value) (q : Option Addr) (hv : v = .pointer q) (w : World) :
    Calls Try.prog 26 #[v] w fun e w' => e = .returned (.func (.func 33) #[] #[.pointer (some ⟨w.heap.size, 0, none⟩)]) ∧ w' = w.alloc (.cells #[v] 59) := by
  subst hv
  go_enter Try.func26, Try.ntmps26
  go_wp2
  go_ret
  exact ⟨rfl, rfl⟩

/-- what All hands out -/
def pairs (xs : List Int) : List (Array Value) := (List.range xs.length).map fun (i : Nat) => #[.int .i64 (i : Int), .int .i64 (xs[i]?.getD 0)]
theorem pairs_at {xs : List Int} {k : Nat} (h : k < xs.length) : (pairs xs)[k]? = some #[.int .i64 k, .int .i64 (xs[k]'h)] := by
  simp [pairs, h]

set_option maxRecDepth 100000 in
set_option maxHeartbeats 2000000 in
theorem all_seqs {b rb room c : Nat} {xs : List Int} {w : World} (h : Qu w b rb room xs) (hc : Blk w c 59 #[.pointer (some ⟨b, 0, none⟩)]) :
    Seqs Try.prog 33 #[.pointer (some ⟨c, 0, none⟩)] (pairs xs) [] w := by
  intro l J Jx W S hK hl hlW hS _ hJ hY h0
  have hq : Qu W b rb room xs := by
    obtain ⟨ra, len, first, cs, h1, h2, h3⟩ := h
    exact ⟨ra, len, first, cs, hK.blk h1, fun hl => ⟨(h2 hl).1, hK.blk (h2 hl).2⟩, h3⟩
  have hcW := hK.blk hc
  have cc := hcW.cell 0
  have hcl := hcW.lt
  obtain ⟨ra, len, first, cs, h1, h2, h3, h4⟩ := hq
  have c3 := h1.cell 3
  simp at cc c3
  have hlen : xs.length ≤ 1048576 := by have := h3.1; omega
  have H1 := Lib.hid h1
  have H2 := Lib.hid h2
  have H3 := Lib.hid h3
  have H4 := Lib.hid h4
  have HJ := Lib.hid hJ
  have HY := Lib.hid hY
  have H0 := Lib.hid h0
  have HK := Lib.hid hK
  clear h1 h2 h3 h4 h hc hcW hJ hY h0 hK
  show Calls Try.prog 33 #[.func (.yield l) #[] #[], .pointer (some ⟨c, 0, none⟩)] W _
  go_enter Try.func33, Try.ntmps33
  go_wp2
  go_region_held3 (fun w' => w'.cell? ⟨c, 0, none⟩ = some (.pointer (some ⟨b, 0, none⟩)) ∧ w'.cell? ⟨b, 3, none⟩ = some (.int .i64 xs.length)) (first | (go_keep; done) | (refine ⟨?_, ?_⟩ <;> (go_simp; done)))
    (first | (go_at_call 30; refine (items_any ((H1.out).drewN _) (fun h => ⟨(H2.out h).1, ((H2.out h).2).drewN _⟩) H3.out (by have := H4.out; omega) (by have := H4.out; omega) (by have := H4.out; omega) (by omega) (by omega)).mono ?_; rintro e w' ⟨os, rfl, ho, hos, hsz, hos2⟩; have g0 := (ho.cell (p := ⟨c, 0, none⟩) (by simp; omega) (by simp)).trans cc; have g3 := ((ho.blk ((H1.out).drewN _) (by simp)).cell 3); simp at g0 g3))
  go_wp2_with (fail)
  simp only [World.heap_drewN] at hos
  have hoW : Only [] W w' := ((Only.refl [] W).drewN _).trans ho (fun _ h => by simp at h)
  have hJ0 : J 0 S w' := HJ.out _ _ _ _ H0.out hoW
  have hsz' := ho.size
  simp only [World.heap_drewN] at hsz'
  have HJ0 := Lib.hid hJ0
  clear hJ0 g0 g3 cc c3
  refine (wpIn_wide (n := 9)).1 ?_
  gi_loopw [3, 4, 14] (fun _ _ i wr => ∃ k : Nat, ∃ S', i = .int .i64 k ∧ k ≤ xs.length ∧ J k S' wr ∧ W.heap.size ∉ S' ∧ Blk wr W.heap.size 3 os ∧ w'.heap.size ≤ wr.heap.size) (fun _ _ i _ => xs.length - (intOf i).toNat)
  case atStart => exact ⟨0, S, rfl, by omega, HJ0.out, fun h => by have := hS _ h; omega, hos, Nat.le_refl _⟩
  case round =>
    obtain ⟨k, S', rfl, hk, hJk, hnS, hok, hszr⟩ := hrel
    have HJk := Lib.hid hJk
    have Hok := Lib.hid hok
    have HnS := Lib.hid hnS
    clear hJk hnS
    by_cases hlt : k < xs.length
    · have co := hok.cell k
      rw [hos2 k xs[k] (by simp [hlt])] at co
      obtain ⟨fn, tmps, assign, body, hy, hR⟩ := HY.out k S' wr _ (pairs_at hlt) HJk.out
      have HR := Lib.hid hR
      clear hok hR
      gi_wp2
      refine HR.out.mono ?_
      rintro e W3 (⟨rfl, ⟨S3, hJ3, hS3⟩, ho3⟩ | ⟨rfl, hJx⟩)
      · have s3 := ho3.size
        gi_wp2
        go_roundw
        case rel => exact ⟨k + 1, S3, by go_num, by omega, hJ3, fun h => (by rcases hS3 _ h with h | h; exact HnS.out h; have := Hok.out.lt; omega), ho3.blk Hok.out (by simp; exact ⟨by omega, HnS.out⟩), by omega⟩
        case measure => simp [intOf]; omega
      · gi_wp2
        refine bodyPost_ret (results_none rfl _ _ _) rfl ?_
        exact ⟨⟨_, rfl⟩, .inr hJx⟩
    · obtain rfl : k = xs.length := by omega
      clear hok
      gi_wp2
      go_end0
      exact ⟨⟨_, rfl⟩, .inl ⟨S', by simpa [pairs] using HJk.out⟩⟩

theorem all_seqs_nil {c : Nat} {w : World} (hc : Blk w c 59 #[.pointer none]) :
    Seqs Try.prog 33 #[.pointer (some ⟨c, 0, none⟩)] [] [] w := by
  intro l J Jx W S hK hl hlW hS _ hJ hY h0
  have cc := (hK.blk hc).cell 0
  simp at cc
  have H0 := Lib.hid h0
  clear hc hJ hY h0 hK
  show Calls Try.prog 33 #[.func (.yield l) #[] #[], .pointer (some ⟨c, 0, none⟩)] W _
  go_enter Try.func33, Try.ntmps33
  go_wp2
  refine bodyPost_ret (results_none rfl _ _ _) rfl ?_
  exact ⟨⟨_, rfl⟩, .inl ⟨S, H0.out⟩⟩

end Go.Proofs.Ytlhmhpopppfpkaa
