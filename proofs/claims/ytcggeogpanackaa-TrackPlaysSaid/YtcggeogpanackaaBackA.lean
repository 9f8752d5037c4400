/- Back, Free. -/
import Derived.Test.YtcggeogpanackaaDel
namespace Go.Proofs.Ytcggeogpanackaa
open Go.RowKit Go.Kx
set_option maxRecDepth 20000

theorem reverse_any {w : World} {B : Nat} {v : Value} {xs : List Int} (hv : IntsAt w B v xs) (h20 : xs.length ≤ 1048576) :
    Calls Try.prog 37 #[v] w fun e w' => e = .returned (.tuple #[]) ∧ IntsAt w' B v xs.reverse ∧ Only v.ownBlock.toList w w' := by
  rcases hv with ⟨rfl, rfl⟩ | ⟨h, rfl, hB, hb⟩
  · refine (reverse_nil w).mono ?_
    rintro e w' ⟨rfl, rfl⟩
    exact ⟨rfl, .inl ⟨rfl, rfl⟩, Only.refl _ _⟩
  · refine (reverse_row hb h20).mono ?_
    rintro e w' ⟨rfl, h1, h2⟩
    exact ⟨rfl, .inr ⟨h, by rw [List.length_reverse], hB, h1⟩, h2⟩
theorem IntsAt.own {w : World} {B : Nat} {v : Value} {xs : List Int} (hv : IntsAt w B v xs) : ∀ b ∈ v.ownBlock.toList, B ≤ b := by
  rcases hv with ⟨rfl, rfl⟩ | ⟨h, rfl, hB, hb⟩
  · intro b hb; simp [Value.ownBlock] at hb
  · intro b hb; simp [Value.ownBlock] at hb; omega
theorem IntsAt.keep {w w' : World} {B : Nat} {v : Value} {xs : List Int} {S : List Nat} (hv : IntsAt w B v xs) (o : Only S w w') (hS : ∀ b ∈ S, b < B) : IntsAt w' B v xs := by
  rcases hv with ⟨rfl, rfl⟩ | ⟨h, rfl, hB, hb⟩
  · exact .inl ⟨rfl, rfl⟩
  · exact .inr ⟨h, rfl, hB, o.blk hb (fun k => by have := hS h k; omega)⟩
theorem IntsAt.low {w : World} {B B' : Nat} {v : Value} {xs : List Int} (hv : IntsAt w B v xs) (h : B' ≤ B) : IntsAt w B' v xs := by
  rcases hv with h1 | ⟨h, rfl, hB, hb⟩
  · exact .inl h1
  · exact .inr ⟨h, rfl, by omega, hb⟩
theorem IntsAt.drew {w : World} {B : Nat} {v : Value} {xs : List Int} (hv : IntsAt w B v xs) : IntsAt w.drew B v xs := by
  rcases hv with h1 | ⟨h, rfl, hB, hb⟩
  · exact .inl h1
  · exact .inr ⟨h, rfl, hB, hb.drew⟩
theorem own_form {W : World} {base n c : Nat} {A : Option Addr} {t : TypeId} {xs : List Value} (h : W.ownsRow base t 4 (.slice A n c) n xs) : (A = none ∧ n = 0 ∧ c = 0) ∨ (∃ b, A = some ⟨b, 0, none⟩) ∧ n ≤ c := by
  rcases h.2 with ⟨h1, h2⟩ | ⟨g, cap', cur, h1, _, _, h2, _⟩
  · injection h1 with hA _ hc
    exact .inl ⟨hA, h2, hc⟩
  · injection h1 with hA _ hc
    exact .inr ⟨⟨g, hA⟩, by omega⟩
theorem part_drop {W : World} {base c b n : Nat} {t : TypeId} {L : List En} (hn : L.length = n) (h : W.ownsRow base t 4 (.slice (some ⟨b, 0, none⟩) n c) n (flat4 L)) (hnc : n ≤ c) (i : Nat) : Part W (if c = i then some ⟨b, 0, none⟩ else some ⟨b, i * 4, none⟩) (L.drop i) := by
  intro k e he
  rw [List.getElem?_drop] at he
  have hk : i + k < L.length := (List.getElem?_eq_some_iff.1 he).1
  obtain ⟨b', hb', hlt, _, c0, c1, c2, c3⟩ := own_cell hn.symm h he
  cases hb'
  rw [if_neg (by omega)]
  have e4 : i * 4 + k * 4 = (i + k) * 4 := by omega
  exact ⟨b, i * 4, rfl, hlt, by rw [e4]; exact c0, by rw [e4]; exact c1, by rw [e4]; exact c2, by rw [e4]; exact c3⟩
theorem part_take {W : World} {base c b n : Nat} {t : TypeId} {L : List En} (hn : L.length = n) (h : W.ownsRow base t 4 (.slice (some ⟨b, 0, none⟩) n c) n (flat4 L)) (i : Nat) : Part W (some ⟨b, 0, none⟩) (L.take i) := by
  intro k e he
  have hk : k < (L.take i).length := (List.getElem?_eq_some_iff.1 he).1
  rw [List.getElem?_take_of_lt (by simp at hk; omega)] at he
  obtain ⟨b', hb', hlt, _, c0, c1, c2, c3⟩ := own_cell hn.symm h he
  cases hb'
  exact ⟨b, 0, rfl, hlt, by rw [Nat.zero_add]; exact c0, by rw [Nat.zero_add]; exact c1, by rw [Nat.zero_add]; exact c2, by rw [Nat.zero_add]; exact c3⟩
theorem Part.nil (w : World) (A : Option Addr) : Part w A [] := fun i e h => by simp at h
theorem upTo_le (L : List En) (s : St) : upToT L s ≤ L.length := List.countP_le_length
theorem ahead_le (L : List En) (s : St) : aheadT L s ≤ L.length := List.countP_le_length

theorem back_nil (s : St) (w : World) : Calls Try.prog 16 #[.pointer none, .agg #[.int .i64 s.1.1, .int .i64 s.1.2, .int .i64 s.2]] w fun e w' => e = .returned (.slice none 0 0) ∧ Only [] w w' := by
  go_enter Try.func16, Try.ntmps16
  go_wp2_with (fail)
  go_ret
  exact ⟨rfl, (Only.refl _ _).alloc _⟩
theorem back_wrong {g : Nat} {s : St} (os : s.ok) (rs : stR s = false) (w : World) : Calls Try.prog 16 #[.pointer (some ⟨g, 0, none⟩), .agg #[.int .i64 s.1.1, .int .i64 s.1.2, .int .i64 s.2]] w fun e w' => e = .returned (.slice none 0 0) ∧ Only [] w w' := by
  go_enter Try.func16, Try.ntmps16
  go_wp2_with (fail)
  refine (strightr os rs _).mono ?_
  rintro e w2 ⟨rfl, o2⟩
  go_wp2_with (fail)
  go_ret
  exact ⟨rfl, ((Only.refl _ _).alloc _).trans o2 (by simp)⟩

theorem free_nil (s : St) (w : World) : Calls Try.prog 17 #[.pointer none, .agg #[.int .i64 s.1.1, .int .i64 s.1.2, .int .i64 s.2]] w fun e w' => e = .returned (.slice none 0 0) ∧ Only [] w w' := by
  go_enter Try.func17, Try.ntmps17
  go_wp2_with (fail)
  go_ret
  exact ⟨rfl, (Only.refl _ _).alloc _⟩
theorem free_wrong {g : Nat} {s : St} (os : s.ok) (rs : stR s = false) (w : World) : Calls Try.prog 17 #[.pointer (some ⟨g, 0, none⟩), .agg #[.int .i64 s.1.1, .int .i64 s.1.2, .int .i64 s.2]] w fun e w' => e = .returned (.slice none 0 0) ∧ Only [] w w' := by
  go_enter Try.func17, Try.ntmps17
  go_wp2_with (fail)
  refine (strightr os rs _).mono ?_
  rintro e w2 ⟨rfl, o2⟩
  go_wp2_with (fail)
  go_ret
  exact ⟨rfl, ((Only.refl _ _).alloc _).trans o2 (by simp)⟩

theorem back_fin {B : Nat} {w w5 w6 : World} {g n c i N : Nat} {room : Int} {L : List En} {A : Option Addr} {v : Value} {xs : List Int} (hn : L.length = n) (hT : TB B w g room L A c) (O : Only [] w w5) (hlt : ∀ p, A = some p → p.block < w.heap.size ∧ B ≤ p.block ∧ p.block ≠ g) (hgl : g < w.heap.size)
    (hv : IntsAt w5 N v xs) (hb : Blk w6 g 66 #[.int .i64 room, .slice A n c]) (hw : w6.ownsRow B 71 4 (.slice A (i + (n - n)) c) (i + (n - n)) (flat4 (L.take i ++ L.drop n))) (o6 : Only (A.toList.map (·.block)) w5 w6) (hN : w.heap.size ≤ N) (hi : i ≤ n) :
    IntsAt (w6.setCell ⟨g, 1, none⟩ (.slice A i c)) w.heap.size v xs ∧ TB B (w6.setCell ⟨g, 1, none⟩ (.slice A i c)) g room (L.take i) A c ∧ Only (g :: A.toList.map (·.block)) w (w6.setCell ⟨g, 1, none⟩ (.slice A i c)) := by
  have e : i + (n - n) = i := by omega
  have e2 : L.take i ++ L.drop n = L.take i := by rw [List.drop_eq_nil_of_le (by omega), List.append_nil]
  rw [e] at hw
  rw [e2] at hw
  have hlen : (L.take i).length = i := by simp; omega
  have hSb : ∀ b ∈ A.toList.map (·.block), b < w.heap.size := fun b hb => by
    simp at hb; obtain ⟨p, hp, rfl⟩ := hb; exact (hlt p hp).1
  refine ⟨((hv.low hN).keep o6 hSb).keep (only_setCell _ _ _) (fun b hb => by simp at hb; omega), ⟨?_, ?_, hT.base⟩, ?_⟩
  · rw [hlen]; exact hb.set_ 1 _
  · rw [hlen]
    refine ownsRow_only (only_setCell _ _ _) hw (fun b h k => ?_)
    cases A with
    | none => simp [Value.ownBlock] at h
    | some p => simp [Value.ownBlock] at h; simp at k; exact (hlt p rfl).2.2 (by omega)
  · exact Only.setCell ((O.mono (fun _ h => by simp at h)).trans (o6.mono fun x hx => .inl (List.mem_cons_of_mem _ hx)) (fun _ h => .inl h)) (.inl (by simp)) _
theorem free_fin {B : Nat} {w w5 w6 : World} {g n c i N : Nat} {room : Int} {L : List En} {A : Option Addr} {v : Value} {xs : List Int} (hn : L.length = n) (hT : TB B w g room L A c) (O : Only [] w w5) (hlt : ∀ p, A = some p → p.block < w.heap.size ∧ B ≤ p.block ∧ p.block ≠ g) (hgl : g < w.heap.size)
    (hv : IntsAt w5 N v xs) (hb : Blk w6 g 66 #[.int .i64 room, .slice A n c]) (hw : w6.ownsRow B 71 4 (.slice A (0 + (n - i)) c) (0 + (n - i)) (flat4 (L.take 0 ++ L.drop i))) (o6 : Only (A.toList.map (·.block)) w5 w6) (hN : w.heap.size ≤ N) :
    IntsAt (w6.setCell ⟨g, 1, none⟩ (.slice A (n - i) c)) w.heap.size v xs ∧ TB B (w6.setCell ⟨g, 1, none⟩ (.slice A (n - i) c)) g room (L.drop i) A c ∧ Only (g :: A.toList.map (·.block)) w (w6.setCell ⟨g, 1, none⟩ (.slice A (n - i) c)) := by
  rw [Nat.zero_add, List.take_zero, List.nil_append] at hw
  have hlen : (L.drop i).length = n - i := by simp [hn]
  have hSb : ∀ b ∈ A.toList.map (·.block), b < w.heap.size := fun b hb => by
    simp at hb; obtain ⟨p, hp, rfl⟩ := hb; exact (hlt p hp).1
  refine ⟨((hv.low hN).keep o6 hSb).keep (only_setCell _ _ _) (fun b hb => by simp at hb; omega), ⟨?_, ?_, hT.base⟩, ?_⟩
  · rw [hlen]; exact hb.set_ 1 _
  · rw [hlen]
    refine ownsRow_only (only_setCell _ _ _) hw (fun b h k => ?_)
    cases A with
    | none => simp [Value.ownBlock] at h
    | some p => simp [Value.ownBlock] at h; simp at k; exact (hlt p rfl).2.2 (by omega)
  · exact Only.setCell ((O.mono (fun _ h => by simp at h)).trans (o6.mono fun x hx => .inl (List.mem_cons_of_mem _ hx)) (fun _ h => .inl h)) (.inl (by simp)) _

end Go.Proofs.Ytcggeogpanackaa
