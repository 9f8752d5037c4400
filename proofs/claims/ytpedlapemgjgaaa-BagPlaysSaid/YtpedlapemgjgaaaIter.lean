/- All and Where of a bag, as they are handed out. -/
import Derived.Test.YtpedlapemgjgaaaMore
import Derived.Test.YtpedlapemgjgaaaRangeT
namespace Go.Proofs.Ytpedlapemgjgaaa
open Go.RowKit Go.Kx Go.Bag
attribute [local go_sem] Oper.semAt_some
set_option maxRecDepth 100000
theorem BBI.keepC {B C : Nat} {w w' : World} {g : Nat} {L : List Int} {A : Option Addr} {c : Nat} (h : BBI B w g L A c) (k : KeepC C w w') : BBI B w' g L A c :=
  ⟨k.blk h.blk, ownsRow_keepC k h.row, h.srt⟩
/-- the blocks that a going through reads -/
def blkA (A : Option Addr) : List Nat := match A with | none => [] | some p => [p.block]
theorem blkA_mem {A : Option Addr} {p : Addr} (h : A = some p) : p.block ∈ blkA A := by subst h; simp [blkA]
theorem blkA_lt {B : Nat} {w : World} {g : Nat} {L : List Int} {A : Option Addr} {c : Nat} (h : BBI B w g L A c) : ∀ x ∈ blkA A, B ≤ x ∧ x < w.heap.size := fun x hx => by
  cases A with
  | none => simp [blkA] at hx
  | some p =>
    simp [blkA] at hx
    subst hx
    exact h.row.lt p.block rfl
theorem all_any (g : Option Addr) (w : World) : Calls Try.prog 12 #[.pointer g] w fun e w' => e = .returned (.func (.func 36) #[] #[.pointer (some ⟨w.heap.size, 0, none⟩)]) ∧ w' = w.alloc (.cells #[.pointer g] 24) := by
  go_enter Try.func12, Try.ntmps12
  go_wp2_with (fail)
  go_ret
  exact ⟨rfl, rfl⟩
/-- what is handed out -/
def pairs : Nat → List Int → List (Array Value)
  | _, [] => []
  | k, x :: L => #[.int .i64 (k : Nat), .int .i64 x] :: pairs (k + 1) L
theorem pairs_at : ∀ (L : List Int) (s i : Nat), (pairs s L)[i]? = (L[i]?).map (fun x => #[.int .i64 ((s + i : Nat) : Int), .int .i64 x])
  | [], s, i => by simp [pairs]
  | x :: L, s, 0 => by simp [pairs]
  | x :: L, s, i + 1 => by
    have := pairs_at L (s + 1) i
    simp only [pairs, List.getElem?_cons_succ, this]
    rw [show s + 1 + i = s + (i + 1) by omega]
theorem pairs_len : ∀ (L : List Int) (s : Nat), (pairs s L).length = L.length
  | [], _ => rfl
  | x :: L, s => by simp [pairs, pairs_len L (s + 1)]
theorem pairs_has {L : List Int} {k : Nat} {v : Array Value} (h : (pairs 0 L)[k]? = some v) : ∃ x, L[k]? = some x ∧ v = #[.int .i64 (k : Nat), .int .i64 x] := by
  rw [pairs_at, Nat.zero_add] at h
  cases hx : L[k]? with
  | none => rw [hx] at h; cases h
  | some x => rw [hx] at h; exact ⟨x, rfl, (Option.some.inj h).symm⟩
set_option maxHeartbeats 4000000 in
theorem all_seqs {B : Nat} {w : World} {g cb : Nat} {L : List Int} {A : Option Addr} {c : Nat} (hT : BBI B w g L A c) (hl6 : L.length ≤ 1000000) (hc : Blk w cb 24 #[.pointer (some ⟨g, 0, none⟩)]) :
    SeqsT Try.prog 36 #[.pointer (some ⟨cb, 0, none⟩)] (pairs 0 L) (cb :: g :: blkA A) w := by
  intro l J Jx W S hK hl hlW hS hpr hJ hJx hY h0
  have hTW := hT.keepC hK
  have hbx := hK.blk hc
  have hrow := hTW.rowC
  have HPA := Lib.hid (show ∀ p, A = some p → p.block ∉ S ∧ p.block < w.heap.size from fun p hp => ⟨hpr _ (List.mem_cons_of_mem _ (List.mem_cons_of_mem _ (blkA_mem hp))), (blkA_lt hT _ (blkA_mem hp)).2⟩)
  have hsW := hK.size
  obtain ⟨b0, bl⟩ := hbx.facts1
  obtain ⟨g0, g1, gl⟩ := hTW.blk.facts2
  obtain ⟨n, hn⟩ : ∃ n, L.length = n := ⟨_, rfl⟩
  have HN := Lib.hid hn
  rw [hn] at g1 hl6
  rw [pairs_len, hn]
  have HL := Lib.hid (fun k x (h : L[k]? = some x) => show (pairs 0 L)[k]? = some #[Value.int .i64 (k : Nat), Value.int .i64 x] by rw [pairs_at, h, Nat.zero_add]; rfl)
  have HR := Lib.hid hrow
  have HJ := Lib.hid hJ
  have HY := Lib.hid hY
  have H0 := Lib.hid h0
  have HS0 := Lib.hid hS
  have HF := Lib.hid (own_form hTW.row)
  rw [hn] at HF
  clear hT hc hK hJ hJx hY h0 hS hpr hTW hbx hrow hn
  show Calls Try.prog 36 #[.func (.yield l) #[] #[], .pointer (some ⟨cb, 0, none⟩)] W _
  go_enter Try.func36, Try.ntmps36
  go_wp2_with (fail)
  refine (wpIn_wide (n := 9)).1 ?_
  clear b0 bl g0 g1 gl
  gi_loopw [12] (fun u wr => ∃ (k : Nat), ∃ S', u = .int .i64 k ∧ k ≤ n ∧ J k S' wr ∧ (∀ b, b ∈ S' → b ∈ S ∨ W.heap.size ≤ b) ∧ RowC wr A (flat1 L) ∧ W.heap.size ≤ wr.heap.size) (fun u _ => n - (intOf u).toNat)
  case atStart => exact ⟨0, S, rfl, Nat.zero_le _, H0.out, fun b h => .inl h, HR.out, Nat.le_refl _⟩
  case round =>
    obtain ⟨wq, rfl⟩ : ∃ wq : World, wq = wr := ⟨_, rfl⟩
    obtain ⟨k, S', rfl, hk, hJk, hSk, hrw, hzr⟩ := hrel
    have HJk := Lib.hid hJk
    have HSk := Lib.hid hSk
    have HRk := Lib.hid hrw
    clear hJk hSk hrw
    by_cases hlt : k < n
    · obtain ⟨x, hx⟩ := at_some (L := L) (i := k) (by rw [HN.out]; exact hlt)
      obtain ⟨b, o, hA, hbl, c0⟩ := rowI HRk.out hx
      obtain rfl : o = 0 := by
        rcases HF.out with ⟨h, _⟩ | ⟨⟨b', h⟩, _⟩
        · rw [h] at hA; cases hA
        · rw [h] at hA; cases hA; rfl
      rw [Nat.zero_add] at c0
      cases hA
      have ik : (0 : Int) ≤ (k : Int) := by omega
      have ik1 : (k : Int) < (n : Int) := by omega
      obtain ⟨fn, tmps, assign, body, hy, hR⟩ := HY.out k S' wq _ (HL.out k x hx) HJk.out
      have HRR := Lib.hid hR
      clear hR hx
      gi_wp2_with (fail)
      refine HRR.out.mono ?_
      rintro e W3 (⟨rfl, ⟨S3, hJ3, hS3⟩, ho3⟩ | ⟨rfl, ⟨S3, hJ3, hS3⟩, ho3⟩)
      · have HJ3 := Lib.hid hJ3
        have HR3 := Lib.hid (HRk.out.besides ho3 (fun p hp hm => by
          obtain ⟨h1, h2⟩ := HPA.out p hp
          rcases List.mem_cons.1 hm with h | h
          · omega
          · rcases HSk.out _ h with h | h
            · exact h1 h
            · omega))
        have hz3 := ho3.size
        clear hJ3 ho3 c0
        gi_wp2_with (fail)
        go_roundw
        case rel =>
          refine ⟨k + 1, S3, by go_num, by omega, HJ3.out, fun b hb => ?_, HR3.out, by omega⟩
          rcases hS3 b hb with h | h
          · exact HSk.out b h
          · right; omega
        case measure => simp [intOf]; omega
      · have HJ3 := Lib.hid hJ3
        clear hJ3 ho3 c0
        gi_wp2_with (fail)
        refine bodyPost_ret (results_none rfl _ _ _) rfl ?_
        exact ⟨⟨_, rfl⟩, .inr ⟨S3, HJ3.out⟩⟩
    · have hie : k = n := by omega
      have iz1 : ¬ (k : Int) < (n : Int) := by omega
      rw [hie] at HJk iz1 ⊢
      clear hie hk hlt
      gi_wp2_with (fail)
      refine bodyPost_end (results_none rfl _ _ _) rfl ?_
      exact ⟨⟨_, rfl⟩, .inl ⟨S', HJk.out⟩⟩
end Go.Proofs.Ytpedlapemgjgaaa
