/- The links of a net in order, as they are handed out. -/
import Derived.Test.YtlhmhpopppfpkaaRangeN
import Derived.Test.YtlhmhpopppfpkaaBoth
namespace Go.Proofs.Ytlhmhpopppfpkaa
open Go.RowKit Go.Kx
attribute [local go_sem] Oper.semAt_some
set_option maxRecDepth 100000

/-- the links from a, ahead of the one to b -/
def rowP (a b : Nat) : List Pr := ((List.range b).filter fun (j : Nat) => !decide (j = a)).map fun (j : Nat) => ((a : Int), (j : Int))
def preP (n a b : Nat) : List Pr := ((List.range a).flatMap fun i => rowP i n) ++ rowP a b
def prs (n : Nat) : List Pr := (List.range n).flatMap fun i => rowP i n
theorem rowP_zero (a : Nat) : rowP a 0 = [] := rfl
theorem rowP_succ (a b : Nat) : rowP a (b + 1) = rowP a b ++ (if b = a then [] else [((a : Int), (b : Int))]) := by
  unfold rowP
  rw [List.range_succ, List.filter_append, List.map_append]
  congr 1
  by_cases h : b = a <;> simp [h]
theorem preP_zero (n : Nat) : preP n 0 0 = [] := rfl
theorem preP_next (n a : Nat) : preP n (a + 1) 0 = preP n a n := by
  unfold preP
  rw [List.range_succ, List.flatMap_append, rowP_zero, List.append_nil]
  simp
theorem preP_all (n : Nat) : preP n n 0 = prs n := by simp [preP, prs, rowP_zero]
theorem preP_same (n a : Nat) : preP n a (a + 1) = preP n a a := by unfold preP; rw [rowP_succ]; simp
theorem preP_other (n : Nat) {a b : Nat} (h : b ≠ a) : preP n a (b + 1) = preP n a b ++ [((a : Int), (b : Int))] := by unfold preP; rw [rowP_succ, if_neg h]; simp
theorem rowP_pre (a : Nat) {b c : Nat} (h : b ≤ c) : rowP a b <+: rowP a c := by
  obtain ⟨d, rfl⟩ := Nat.exists_eq_add_of_le h
  induction d with
  | zero => exact List.prefix_refl _
  | succ d ih => exact (ih (by omega)).trans (by rw [show b + (d + 1) = b + d + 1 by omega, rowP_succ]; exact List.prefix_append _ _)
theorem preP_le {n a b : Nat} (ha : a < n) (hb : b ≤ n) : preP n a b <+: prs n := by
  have h1 : preP n a b <+: preP n a n := by unfold preP; exact (List.prefix_append_right_inj _).2 (rowP_pre a hb)
  refine h1.trans ?_
  rw [← preP_next]
  obtain ⟨d, rfl⟩ : ∃ d, n = a + 1 + d := ⟨n - (a + 1), by omega⟩
  unfold preP prs
  rw [rowP_zero, List.append_nil, show List.range (a + 1 + d) = List.range (a + 1) ++ (List.range d).map (a + 1 + ·) from List.range_add .., List.flatMap_append]
  exact List.prefix_append _ _
theorem prs_at {n a b : Nat} (ha : a < n) (hb : b < n) (h : b ≠ a) : (prs n)[(preP n a b).length]? = some ((a : Int), (b : Int)) := by
  have hp := preP_le (b := b + 1) ha (by omega)
  rw [preP_other n h] at hp
  obtain ⟨t, ht⟩ := hp
  rw [← ht]
  simp
theorem prs_mem {n : Nat} {p : Pr} (h : p ∈ prs n) : ∃ a b : Nat, p = ((a : Int), (b : Int)) ∧ a < n ∧ b < n ∧ b ≠ a := by
  unfold prs at h
  obtain ⟨a, ha, h⟩ := List.mem_flatMap.1 h
  unfold rowP at h
  obtain ⟨b, hb, rfl⟩ := List.mem_map.1 h
  obtain ⟨hb, hd⟩ := List.mem_filter.1 hb
  exact ⟨a, b, rfl, List.mem_range.1 ha, List.mem_range.1 hb, by simpa using hd⟩
def valsP (M : List Pr) : List (Array Value) := M.map fun p => #[.agg #[.int .i64 p.1, .int .i64 p.2]]
theorem valsP_at {M : List Pr} {k : Nat} {p : Pr} (h : M[k]? = some p) : (valsP M)[k]? = some #[.agg #[.int .i64 p.1, .int .i64 p.2]] := by
  unfold valsP; rw [List.getElem?_map, h]; rfl
theorem valsP_of {M : List Pr} {k : Nat} {v : Array Value} (h : (valsP M)[k]? = some v) : ∃ p, M[k]? = some p ∧ v = #[.agg #[.int .i64 p.1, .int .i64 p.2]] := by
  unfold valsP at h
  rw [List.getElem?_map] at h
  cases hm : M[k]? with
  | none => rw [hm] at h; cases h
  | some e => rw [hm] at h; injection h with h; exact ⟨e, rfl, h.symm⟩
theorem pairs_any (v : Value) (q : Option Addr) (hv : v = .pointer q) (w : World) :
    Calls Try.prog 25 #[v] w fun e w' => e = .returned (.func (.func 32) #[] #[.pointer (some ⟨w.heap.size, 0, none⟩)]) ∧ w' = w.alloc (.cells #[v] 24) := by
  subst hv
  go_enter Try.func25, Try.ntmps25
  go_wp2_with (fail)
  go_ret
  exact ⟨rfl, rfl⟩
theorem pairs_seqs_nil {c : Nat} {w : World} (hc : Blk w c 24 #[.pointer none]) : Seqs Try.prog 32 #[.pointer (some ⟨c, 0, none⟩)] (valsP []) [] w := by
  intro l J Jx W S hK hl hlW hS _ hJ hY h0
  have cc := (hK.blk hc).cell 0
  simp at cc
  have H0 := Lib.hid h0
  clear hc hJ hY h0 hK
  show Calls Try.prog 32 #[.func (.yield l) #[] #[], .pointer (some ⟨c, 0, none⟩)] W _
  go_enter Try.func32, Try.ntmps32
  go_wp2_with (fail)
  refine bodyPost_ret (results_none rfl _ _ _) rfl ?_
  exact ⟨⟨_, rfl⟩, .inl ⟨S, H0.out⟩⟩
set_option maxHeartbeats 4000000 in
theorem pairs_seqs {B : Nat} {w : World} {g bm n room c : Nat} {Ls : List (Pr × Lane)} (h : NB B w g bm n room Ls) (hc : Blk w c 24 #[.pointer (some ⟨g, 0, none⟩)]) :
    Seqs Try.prog 32 #[.pointer (some ⟨c, 0, none⟩)] (valsP (prs n)) [c, g] w := by
  intro l J Jx W S hK hl hlW hS hpr hJ hY h0
  have bc := hK.blk hc
  have bg := hK.blk h.blk
  have hn := h.dims
  have hcS : c ∉ S := hpr c (by simp)
  have hgS : g ∉ S := hpr g (by simp)
  have hcl : c < w.heap.size := hc.lt
  have hgl : g < w.heap.size := h.blk.lt
  have e1 : (valsP (prs n)).length = (prs n).length := by simp [valsP]
  rw [e1]
  show Calls Try.prog 32 #[.func (.yield l) #[] #[], .pointer (some ⟨c, 0, none⟩)] W _
  obtain ⟨c0, cl⟩ := bc.facts1
  obtain ⟨g0, -, -, gl⟩ := bg.facts3
  have hn0 : (n : Int) ≤ 8 := by omega
  have HJ := Lib.hid hJ
  have HY := Lib.hid hY
  have H0 := Lib.hid h0
  have BC := Lib.hid bc
  have BG := Lib.hid bg
  have HS := Lib.hid hS
  have HN := Lib.hid hn
  clear bc bg hJ hY h0 hK h hc hS hn hpr e1
  go_enter Try.func32, Try.ntmps32
  go_wp2_with (fail)
  refine (wpIn_wide (n := 9)).1 ?_
  gi_loopw [3, 4, 11] (fun _ _ i wr => ∃ a : Nat, ∃ S', i = .int .i64 a ∧ a ≤ n ∧ J (preP n a 0).length S' wr ∧ (∀ b ∈ S', b ∈ S ∨ W.heap.size ≤ b) ∧ Blk wr c 24 #[.pointer (some ⟨g, 0, none⟩)] ∧ Blk wr g 58 #[.int .i64 n, .int .i64 room, .map (some bm)] ∧ W.heap.size ≤ wr.heap.size) (fun _ _ i _ => n - (intOf i).toNat)
  case atStart => exact ⟨0, S, rfl, by omega, H0.out, fun _ h => .inl h, BC.out, BG.out, Nat.le_refl _⟩
  case round =>
    obtain ⟨a, S', rfl, ha, hJa, hS', bc, bg, hz⟩ := hrel
    have HJa := Lib.hid hJa
    have HSa := Lib.hid hS'
    have BCa := Lib.hid bc
    have BGa := Lib.hid bg
    obtain ⟨c0, cl⟩ := bc.facts1
    obtain ⟨g0, -, -, gl⟩ := bg.facts3
    clear hJa hS' bc bg
    by_cases hlt : a < n
    · gi_wp2_with (fail)
      obtain ⟨wo, rfl⟩ : ∃ wo : World, wo = wr := ⟨_, rfl⟩
      gi_loopw [4, 18] (fun _ i wr => ∃ b : Nat, ∃ S', i = .int .i64 b ∧ b ≤ n ∧ J (preP n a b).length S' wr ∧ (∀ b ∈ S', b ∈ S ∨ W.heap.size ≤ b) ∧ Blk wr c 24 #[.pointer (some ⟨g, 0, none⟩)] ∧ Blk wr g 58 #[.int .i64 n, .int .i64 room, .map (some bm)] ∧ W.heap.size ≤ wr.heap.size) (fun _ i _ => n - (intOf i).toNat)
      case atStart => exact ⟨0, S', rfl, Nat.zero_le _, HJa.out, HSa.out, BCa.out, BGa.out, hz⟩
      case round =>
        clear HJa HSa BCa BGa c0 g0 cl gl
        obtain ⟨b, S2, rfl, hb, hJb, hS2, bc, bg, hz2⟩ := hrel
        have HJb := Lib.hid hJb
        have HSb := Lib.hid hS2
        have BCb := Lib.hid bc
        have BGb := Lib.hid bg
        obtain ⟨c0, cl⟩ := bc.facts1
        obtain ⟨g0, -, -, gl⟩ := bg.facts3
        clear hJb hS2 bc bg
        by_cases hbn : b < n
        · by_cases hab : a = b
          · have he : ((a : Int) != (b : Int)) = false := by simp; omega
            have hp : preP n a (b + 1) = preP n a b := by rw [← hab]; exact preP_same n a
            have HP := Lib.hid hp
            clear hp hab
            gi_wp2_with (fail)
            refine ⟨(fun _ h => by cases h), ?_⟩
            gi_wp2_with (fail)
            go_roundw
            case rel => exact ⟨b + 1, S2, by go_num, hbn, by rw [HP.out]; exact HJb.out, HSb.out, BCb.out, BGb.out, hz2⟩
            case measure => simp [intOf]; omega
          · have he : ((a : Int) != (b : Int)) = true := by simp; omega
            have hp := preP_other n (a := a) (b := b) (fun e => hab e.symm)
            have HP := Lib.hid hp
            clear hp
            obtain ⟨fn, tmps, assign, body, hy, hR⟩ := HY.out (preP n a b).length S2 _ _ (valsP_at (prs_at hlt hbn (fun e => hab e.symm))) HJb.out
            have HR := Lib.hid hR
            clear hR
            gi_wp2_with (fail)
            refine HR.out.mono ?_
            rintro e W3 (⟨rfl, ⟨S3, hJ3, hS3⟩, ho3⟩ | ⟨rfl, hJx⟩)
            · have s3 := ho3.size
              have hcS2 : c ∉ l :: S2 := fun h => by
                rcases List.mem_cons.1 h with h | h
                · omega
                · rcases HSb.out _ h with h | h
                  · exact hcS h
                  · have := BC.out.lt; omega
              have hgS2 : g ∉ l :: S2 := fun h => by
                rcases List.mem_cons.1 h with h | h
                · omega
                · rcases HSb.out _ h with h | h
                  · exact hgS h
                  · have := BG.out.lt; omega
              have bc3 := Lib.hid (ho3.blk BCb.out hcS2)
              have bg3 := Lib.hid (ho3.blk BGb.out hgS2)
              have HJ3 := Lib.hid hJ3
              have HS3 := Lib.hid hS3
              clear ho3 hJ3 hS3 c0 g0
              gi_wp2_with (fail)
              go_roundw
              case rel => exact ⟨b + 1, S3, by go_num, hbn, by rw [HP.out, List.length_append]; exact HJ3.out, fun x hx => (by rcases HS3.out x hx with h | h; exact HSb.out x h; exact .inr (by omega)), bc3.out, bg3.out, by omega⟩
              case measure => simp [intOf]; omega
            · gi_wp2_with (fail)
              refine bodyPost_ret (results_none rfl _ _ _) rfl ?_
              exact ⟨⟨_, rfl⟩, .inr hJx⟩
        · obtain rfl : b = n := by omega
          gi_wp2_with (fail)
          go_roundw
          case rel => exact ⟨a + 1, S2, by go_num, by omega, by rw [preP_next]; exact HJb.out, HSb.out, BCb.out, BGb.out, hz2⟩
          case measure => simp [intOf]; omega
    · obtain rfl : a = n := by omega
      gi_wp2_with (fail)
      go_end0
      exact ⟨⟨_, rfl⟩, .inl ⟨S', by rw [← preP_all]; exact HJa.out⟩⟩
end Go.Proofs.Ytlhmhpopppfpkaa
