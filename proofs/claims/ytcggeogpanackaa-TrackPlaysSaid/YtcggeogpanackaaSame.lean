/- same; what was gone back on can be put anew (plain); blocks that no track lies in. -/
import Derived.Test.YtcggeogpanackaaTold
import Derived.Test.YtcggeogpanackaaFrees1
namespace Go.Proofs.Ytcggeogpanackaa
open Go.RowKit Go.Kx
set_option maxRecDepth 20000

theorem neq_en (e : En) (W : World) : (binOp .neq 45 (.agg #[.int .i64 e.1.1.1, .int .i64 e.1.1.2, .int .i64 e.1.2, .int .i64 e.2]) (.agg #[.int .i64 e.1.1.1, .int .i64 e.1.1.2, .int .i64 e.1.2, .int .i64 e.2])).run Try.prog W = .ok (.bool false) W := by
  simp [go_sem]
theorem Row4.entry {w : World} {A : Option Addr} {M : List En} (h : Row4 w A M) {k : Nat} {e : En} (he : M[k]? = some e) :
    ∃ b o, A = some ⟨b, o, none⟩ ∧ w.cell? ⟨b, o + k * 4, none⟩ = some (.int .i64 e.1.1.1) ∧ w.cell? ⟨b, o + k * 4 + 1, none⟩ = some (.int .i64 e.1.1.2) ∧ w.cell? ⟨b, o + k * 4 + 2, none⟩ = some (.int .i64 e.1.2) ∧ w.cell? ⟨b, o + k * 4 + 3, none⟩ = some (.int .i64 e.2) := by
  obtain ⟨f0, f1, f2, f3⟩ := flat4_at M k e he
  obtain ⟨b, o, hA, _, c0⟩ := h _ _ f0
  have get : ∀ j u, (flat4 M)[j]? = some u → w.cell? ⟨b, o + j, none⟩ = some u := fun j u hu => by
    obtain ⟨b', o', hA', _, hc⟩ := h j u hu
    rw [hA] at hA'; cases hA'; exact hc
  exact ⟨b, o, hA, c0, by have := get _ _ f1; rwa [← Nat.add_assoc] at this, by have := get _ _ f2; rwa [← Nat.add_assoc] at this, by have := get _ _ f3; rwa [← Nat.add_assoc] at this⟩
set_option maxHeartbeats 2000000 in
theorem same_true {w : World} {A A' : Option Addr} {n c c' : Nat} {M : List En} (h1 : Row4 w A M) (h2 : Row4 w A' M) (hn : M.length = n) (h20 : n ≤ 1048576) :
    Calls Try.prog 21 #[.slice A n c, .slice A' n c'] w fun e w' => e = .returned (.bool true) ∧ Only [] w w' := by
  have H1 := Lib.hid h1
  have H2 := Lib.hid h2
  have HN := Lib.hid hn
  clear h1 h2 hn
  go_enter Try.func21, Try.ntmps21
  go_wp2_with (fail)
  go_loopw [5] (fun i wr => ∃ k : Nat, i = .int .i64 k ∧ k ≤ n ∧ Only [] w wr) (fun i _ => n - (intOf i).toNat)
  case atStart => exact ⟨0, rfl, Nat.zero_le _, Only.refl _ _⟩
  case round =>
    obtain ⟨k, rfl, hk, ho⟩ := hrel
    by_cases hlt : k < n
    · have hkM : k < M.length := by have := HN.out; omega
      obtain ⟨b1, o1, rfl, a0, a1, a2, a3⟩ := (H1.out.only ho).entry (List.getElem?_eq_getElem hkM)
      obtain ⟨b2, o2, rfl, d0, d1, d2, d3⟩ := (H2.out.only ho).entry (List.getElem?_eq_getElem hkM)
      have hE := neq_en M[k]
      generalize M[k] = t at a0 a1 a2 a3 d0 d1 d2 d3 hE
      have HO := Lib.hid ho
      clear ho
      go_wp2_with (fail)
      go_region
      go_wp2_with (fail)
      go_roundw
      case rel => exact ⟨k + 1, by go_num, by omega, by first | exact HO.out.drew | exact HO.out.drewN _⟩
      case measure => simp [intOf]; omega
    · obtain rfl : k = n := by omega
      go_wp2_with (fail)
      go_ret
      exact ⟨rfl, ho⟩
theorem put_again {E : List En} (hE : Trk E) {k : Nat} (hk : k < E.length) (h20 : E.length ≤ 200) : putE (E.take k) 200 (E[k]).1 = 0 ∧ putL (E.take k) 200 (E[k]).1 (E[k]).2 = E.take (k + 1) := by
  have hr := hE.right E[k] (List.getElem_mem _)
  have h0 : putE (E.take k) 200 (E[k]).1 = 0 := by
    unfold putE
    rw [if_neg (fun h => by rcases h with h | h; rw [hr.1] at h; cases h; exact hr.2 h), if_neg ?_, if_neg (by simp; omega)]
    intro h
    apply h
    unfold lastC
    rcases Nat.eq_zero_or_pos k with rfl | hp
    · show (-1 : Int) < 0; decide
    · have hl : (E.take k).getLast? = some E[k - 1] := by
        rw [List.getLast?_eq_getElem?, List.length_take, Nat.min_eq_left (by omega), List.getElem?_take_of_lt (by omega), List.getElem?_eq_getElem (by omega)]
      rw [hl]
      exact List.pairwise_iff_getElem.1 hE.rise (k - 1) k (by omega) hk (by omega)
  refine ⟨h0, ?_⟩
  unfold putL
  rw [if_pos h0, List.take_succ_eq_append_getElem hk]
theorem TB.blk_other {B : Nat} {w : World} {g : Nat} {room : Int} {L : List En} {A : Option Addr} {c : Nat} (h : TB B w g room L A c) {b : Nat} {t : TypeId} {cs : Array Value} (hb : Blk w b t cs) (h1 : t ≠ 66) (h2 : 71 ≠ t) : b ∉ g :: A.toList.map (·.block) := fun k => by
  rcases List.mem_cons.1 k with k | k
  · subst k; exact hb.ne_ h.blk h1 rfl
  · rw [List.mem_map] at k
    obtain ⟨p, hp, rfl⟩ := k
    exact owns_ne h.own hb h2 (by simp at hp; rw [hp]; rfl)
theorem TB.own_other {B : Nat} {w : World} {g : Nat} {room : Int} {L : List En} {A : Option Addr} {c : Nat} (h : TB B w g room L A c) {base : Nat} {e : TypeId} {size n : Nat} {v : Value} {xs : List Value} (ho : w.ownsRow base e size v n xs) (h1 : e ≠ 66) (h2 : 71 ≠ e) : ∀ b, v.ownBlock = some b → b ∉ g :: A.toList.map (·.block) := fun b hb => by
  rcases ho.2 with ⟨rfl, _⟩ | ⟨g', cap, cur, rfl, _, hg, _⟩
  · simp [Value.ownBlock] at hb
  · simp [Value.ownBlock] at hb
    subst hb
    exact h.blk_other (t := e) (cs := cur) hg h1 h2
theorem IntsAt.keepT {B N : Nat} {w w' : World} {g : Nat} {room : Int} {L : List En} {A : Option Addr} {c : Nat} {v : Value} {xs : List Int} (hv : IntsAt w N v xs) (h : TB B w g room L A c) (o : Only (g :: A.toList.map (·.block)) w w') : IntsAt w' N v xs := by
  rcases hv with h1 | ⟨b, rfl, hB, hb⟩
  · exact .inl h1
  · exact .inr ⟨b, rfl, hB, o.blk hb (h.blk_other hb (by decide) (by decide))⟩
/-- append(v, x) of one element of three cells, v nil or the call's own -/
theorem run_append3 {P : Program} {t e : TypeId} (te ty : TypeId) {z : Value} {bytes : Nat} (ht : P.underlying t = some (.slice e)) (hi : (P.info? e).map (fun i => (i.zero, i.size, i.bytes)) = some (some z, 3, bytes)) (hz : z.cells.size = 3)
    {w : World} {base : Nat} {v : Value} {n : Nat} {xs : List Value} (hown : w.ownsRow base e 3 v n xs) (x0 x1 x2 : Value) (hx0 : x0.oneCell' = true) (hx1 : x1.oneCell' = true) (hx2 : x2.oneCell' = true) (hbase : base ≤ w.heap.size) (h63 : n + 1 ≤ maxLen) (hb : (n + 1) * bytes ≤ 140737488355328) :
    ∃ g cap w1, (Builtin.append_ #[t, t] ty #[v, .slice (some ⟨w.heap.size, 0, none⟩) 1 1]).run P (w.alloc (.cells #[x0, x1, x2] te)) = .ok (.slice (some ⟨g, 0, none⟩) (n + 1) cap) w1 ∧
      w1.ownsRow base e 3 (.slice (some ⟨g, 0, none⟩) (n + 1) cap) (n + 1) (xs ++ [x0, x1, x2]) ∧ Only v.ownBlock.toList w w1 ∧ (v.ownBlock = some g ∨ w.heap.size ≤ g) := by
  obtain ⟨i, hi, h0, h1, h2⟩ := info_parts hi
  obtain ⟨v', w1, hr, ho, hg, hn, hat⟩ := run_append_own_at (P := P) (w.alloc (.cells #[x0, x1, x2] te)) base t ty e i z 3 bytes ht hi h0 h1 h2 hz (by omega) v n xs (hown.alloc _) ⟨w.heap.size, 0, none⟩ 1 1 [x0, x1, x2] rfl
    (by intro j u hj
        match j, hj with
        | 0, hj => simp at hj; subst hj; simp [Addr.add]
        | 1, hj => simp at hj; subst hj; simp [Addr.add]
        | 2, hj => simp at hj; subst hj; simp [Addr.add])
    (by simp; exact ⟨hx0, hx1, hx2⟩) h63 hb (by simp; omega)
  rcases ho.2 with ⟨rfl, hn0⟩ | ⟨g, cap, cur, rfl, hrest⟩
  · omega
  · refine ⟨g, cap, w1, hr, ho, ?_, ?_⟩
    · have := Only.of_grownBy hg
      exact ((Only.refl v.ownBlock.toList w).alloc _).trans this (fun _ h => .inl h)
    · rcases hat with h | h
      · left; rw [← h]; rfl
      · right; simp [Value.ownBlock] at h; omega

theorem st_info : ((Try.prog.info? 26).map fun i => (i.zero, i.size, i.bytes)) = some (some (.agg #[.int .i64 0, .int .i64 0, .int .i64 0]), 3, 24) := by kernel_rfl
def flat3 (L : List St) : List Value := L.flatMap fun s => [.int .i64 s.1.1, .int .i64 s.1.2, .int .i64 s.2]
theorem flat3_snoc (L : List St) (s : St) : flat3 (L ++ [s]) = flat3 L ++ [.int .i64 s.1.1, .int .i64 s.1.2, .int .i64 s.2] := by simp [flat3]
theorem flat3_at : ∀ (L : List St) (i : Nat) (s : St), L[i]? = some s → (flat3 L)[i * 3]? = some (.int .i64 s.1.1) ∧ (flat3 L)[i * 3 + 1]? = some (.int .i64 s.1.2) ∧ (flat3 L)[i * 3 + 2]? = some (.int .i64 s.2)
  | [], i, s, h => by simp at h
  | a :: L, 0, s, h => by simp at h; subst h; simp [flat3]
  | a :: L, i + 1, s, h => by
    have := flat3_at L i s (by simpa using h)
    have e (j : Nat) : (flat3 (a :: L))[(i + 1) * 3 + j]? = (flat3 L)[i * 3 + j]? := by
      have : (i + 1) * 3 + j = i * 3 + j + 1 + 1 + 1 := by omega
      rw [this]
      rfl
    have e0 := e 0
    simp only [Nat.add_zero] at e0
    rw [e0, e 1, e 2]
    exact this
theorem flat3_length : ∀ L : List St, (flat3 L).length = L.length * 3
  | [] => rfl
  | a :: L => by
    have : flat3 (a :: L) = [.int .i64 a.1.1, .int .i64 a.1.2, .int .i64 a.2] ++ flat3 L := rfl
    rw [this, List.length_append, flat3_length L, List.length_cons]
    simp
    omega
theorem own_cell3 {W : World} {base n cap : Nat} {A : Option Addr} {t : TypeId} {L : List St} (hn : n = L.length) (h : W.ownsRow base t 3 (.slice A n cap) n (flat3 L)) {i : Nat} {s : St} (hi : L[i]? = some s) :
    ∃ b, A = some ⟨b, 0, none⟩ ∧ b < W.heap.size ∧ base ≤ b ∧ W.cell? ⟨b, i * 3, none⟩ = some (.int .i64 s.1.1) ∧ W.cell? ⟨b, i * 3 + 1, none⟩ = some (.int .i64 s.1.2) ∧ W.cell? ⟨b, i * 3 + 2, none⟩ = some (.int .i64 s.2) := by
  subst hn
  have hil : i < L.length := (List.getElem?_eq_some_iff.1 hi).1
  rcases h.2 with ⟨h1, h2⟩ | ⟨g, cap', cur, h1, hb, hg, _, _, _, hcur⟩
  · omega
  · injection h1 with hA _ _
    subst hA
    have hlt : g < W.heap.size := (Array.getElem?_eq_some_iff.1 hg).1
    have cell (j : Nat) (v : Value) (hj : (flat3 L)[j]? = some v) : W.cell? ⟨g, j, none⟩ = some v := by
      rw [cell_of_row W g j cur t (0, 0) hg]
      rw [← hcur] at hj
      have hlt2 : j < (cur.toList.take (L.length * 3)).length := (List.getElem?_eq_some_iff.1 hj).1
      rw [List.getElem?_take_of_lt (by simp at hlt2; omega)] at hj
      simpa using hj
    obtain ⟨f0, f1, f2⟩ := flat3_at L i s hi
    exact ⟨g, rfl, hlt, hb, cell _ _ f0, cell _ _ f1, cell _ _ f2⟩
end Go.Proofs.Ytcggeogpanackaa
