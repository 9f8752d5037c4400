/- slices.Values over stamps. -/
import Derived.Test.YtoefekgfklillaaDoorMinS
import Derived.Test.YtoefekgfklillaaDoorRange
namespace Go.Proofs.YtoefekgfklillaaDoor
open Go.RowKit Go.Kx
attribute [local go_sem] Oper.semAt_some

set_option maxHeartbeats 400000 in
theorem values_any (A : Option Addr) (n cap : Nat) (w : World) :
    Calls Tryd.prog 23 #[.slice A n cap] w fun e w' => e = .returned (.func (.func 39) #[] #[.pointer (some ⟨w.heap.size, 0, none⟩)]) ∧ w' = w.alloc (.cells #[.slice A n cap] 48) := by
  go_enter Tryd.func23, Tryd.ntmps23
  go_wp2
  go_ret
  exact ⟨rfl, rfl⟩
theorem Stamps.keep {B : Nat} {w w' : World} {A : Option Addr} {L : List St} (h : Stamps w A L) (ho : KeepC B w w') : Stamps w' A L := fun i s hs => by
  obtain ⟨hk, b, o, hA, hb, h0, h1, h2⟩ := h i s hs
  have := ho.size
  exact ⟨hk, b, o, hA, by omega, ho.cell h0, ho.cell h1, ho.cell h2⟩
theorem Stamps.besides {S : List Nat} {w w' : World} {A : Option Addr} {L : List St} (h : Stamps w A L) (ho : Only S w w') (hn : ∀ p, A = some p → p.block ∉ S) : Stamps w' A L := fun i s hs => by
  obtain ⟨hk, b, o, hA, hb, h0, h1, h2⟩ := h i s hs
  have := ho.size
  have hx : b ∉ S := hn _ hA
  exact ⟨hk, b, o, hA, by omega, (ho.cell (p := ⟨b, _, none⟩) hb hx).trans h0, (ho.cell (p := ⟨b, _, none⟩) hb hx).trans h1, (ho.cell (p := ⟨b, _, none⟩) hb hx).trans h2⟩
/-- what slices.Values hands out -/
def vals27 (L : List St) : List (Array Value) := L.map fun s => #[.agg #[.int .i64 s.1.1, .int .i64 s.1.2, .int .i64 s.2]]
theorem vals27_at {L : List St} {k : Nat} (h : k < L.length) : (vals27 L)[k]? = some #[.agg #[.int .i64 L[k].1.1, .int .i64 L[k].1.2, .int .i64 L[k].2]] := by
  simp [vals27, h]

set_option maxRecDepth 100000 in
set_option maxHeartbeats 2000000 in
theorem values_seqs {A : Option Addr} {cap c : Nat} {L : List St} {w : World} {prot : List Nat} (hp : ∀ p, A = some p → p.block ∈ prot) (hLen : L.length ≤ 1000) (h : Stamps w A L) (hc : Blk w c 48 #[.slice A L.length cap]) :
    Seqs Tryd.prog 39 #[.pointer (some ⟨c, 0, none⟩)] (vals27 L) prot w := by
  intro l J Jx W S hK hl hlW hS hpr hJ hY h0
  have hbl : ∀ i s, L[i]? = some s → ∀ p, A = some p → p.block < w.heap.size := fun i s hs p e => by
    obtain ⟨_, b, o, hA, hb, _⟩ := h i s hs
    rw [hA] at e
    cases e
    exact hb
  have hns : ∀ p, A = some p → p.block ∉ S := fun p e => hpr _ (hp p e)
  have HB := Lib.hid hbl
  have HN := Lib.hid hns
  clear hbl hns hpr hp
  have hq := h.keep hK
  have cc := (hK.blk hc).cell 0
  simp at cc
  have HQ := Lib.hid hq
  have HJ := Lib.hid hJ
  have HY := Lib.hid hY
  have H0 := Lib.hid h0
  clear h hc hJ hY h0 hK hq
  show Calls Tryd.prog 39 #[.func (.yield l) #[] #[], .pointer (some ⟨c, 0, none⟩)] W _
  go_enter Tryd.func39, Tryd.ntmps39
  go_wp2_with (fail)
  refine (wpIn_wide (n := 9)).1 ?_
  gi_loopw [4, 7] (fun _ i wr => ∃ k : Nat, ∃ S', i = .int .i64 k ∧ k ≤ L.length ∧ J k S' wr ∧ Stamps wr A L ∧ (∀ p, A = some p → p.block ∉ S') ∧ W.heap.size ≤ wr.heap.size) (fun _ i _ => L.length - (intOf i).toNat)
  case atStart => exact ⟨0, S, rfl, by omega, H0.out, HQ.out, HN.out, Nat.le_refl _⟩
  case round =>
    obtain ⟨k, S', rfl, hk, hJk, hQk, hnS, hszr⟩ := hrel
    have HJk := Lib.hid hJk
    have HnS := Lib.hid hnS
    have HQk := Lib.hid hQk
    clear hJk hnS hQk
    by_cases hlt : k < L.length
    · have HJ1 := HJ.out _ _ _ _ HJk.out ((Only.refl [] wr).alloc (.cells #[.int .i64 L[k].1.1, .int .i64 L[k].1.2, .int .i64 L[k].2] 27))
      obtain ⟨fn, tmps, assign, body, hy, hR⟩ := HY.out k S' _ _ (vals27_at hlt) HJ1
      have HR := Lib.hid hR
      have HBk := Lib.hid (HB.out k L[k] (List.getElem?_eq_getElem hlt))
      clear hR HJ1
      obtain ⟨hok, b, o, hA, hb, c0, c1, c2⟩ := HQk.out k L[k] (List.getElem?_eq_getElem hlt)
      have hA' := Lib.hid hA
      subst hA
      gi_wp2
      refine HR.out.mono ?_
      rintro e W3 (⟨rfl, ⟨S3, hJ3, hS3⟩, ho3⟩ | ⟨rfl, hJx⟩)
      · have s3 := ho3.size
        simp at s3 hS3
        gi_wp2
        go_roundw
        case rel =>
          have hbn := HnS.out _ rfl
          have hbw := HBk.out _ rfl
          refine ⟨k + 1, S3, by go_num, by omega, hJ3, (HQk.out.only ((Only.refl [] wr).alloc _)).besides ho3 (fun p e => ?_), fun p e => ?_, by omega⟩
          · cases e; simp; exact ⟨by simp at hbw; omega, hbn⟩
          · cases e; intro h; rcases hS3 _ h with h | h; exact hbn h; simp at h; omega
        case measure => simp [intOf]; omega
      · gi_wp2
        refine bodyPost_ret (results_none rfl _ _ _) rfl ?_
        exact ⟨⟨_, rfl⟩, .inr hJx⟩
    · obtain rfl : k = L.length := by omega
      gi_wp2
      go_end0
      exact ⟨⟨_, rfl⟩, .inl ⟨S', by simpa [vals27] using HJk.out⟩⟩
end Go.Proofs.YtoefekgfklillaaDoor
