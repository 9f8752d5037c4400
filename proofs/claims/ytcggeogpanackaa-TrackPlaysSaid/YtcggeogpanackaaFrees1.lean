/- Back and Free, right or not; what a run of Puts leaves. -/
import Derived.Test.YtcggeogpanackaaHand
import Derived.Test.YtcggeogpanackaaOpen
namespace Go.Proofs.Ytcggeogpanackaa
open Go.RowKit Go.Kx
set_option maxRecDepth 20000

def uT (L : List En) (s : St) : Nat := if stR s = true then upToT L s else L.length
def fT (L : List En) (s : St) : Nat := if stR s = true then aheadT L s else 0
theorem uT_le (L : List En) (s : St) : uT L s ≤ L.length := by unfold uT; split; exact upTo_le L s; exact Nat.le_refl _
theorem fT_le (L : List En) (s : St) : fT L s ≤ L.length := by unfold fT; split; exact ahead_le L s; exact Nat.zero_le _
theorem back_tot {B : Nat} {w : World} {g : Nat} {room : Int} {L : List En} {A : Option Addr} {c : Nat} {s : St} (hT : TB B w g room L A c) (hk : Trk L) (os : s.ok) (hlen : L.length ≤ 1048576) :
    Calls Try.prog 16 #[.pointer (some ⟨g, 0, none⟩), .agg #[.int .i64 s.1.1, .int .i64 s.1.2, .int .i64 s.2]] w fun e w' => ∃ v, e = .returned v ∧ IntsAt w' w.heap.size v ((L.drop (uT L s)).map (·.2)).reverse ∧ TB B w' g room (L.take (uT L s)) A c ∧ Only (g :: A.toList.map (·.block)) w w' := by
  unfold uT
  cases hr : stR s with
  | true => rw [if_pos rfl]; exact back_any hT hk os hr hlen
  | false =>
    rw [if_neg (by simp)]
    refine (back_wrong os hr w).mono ?_
    rintro e w' ⟨rfl, o⟩
    refine ⟨_, rfl, .inl ⟨rfl, by simp⟩, by rw [List.take_length]; exact hT.keep o, o.mono (fun _ h => by simp at h)⟩
theorem free_tot {B : Nat} {w : World} {g : Nat} {room : Int} {L : List En} {A : Option Addr} {c : Nat} {s : St} (hT : TB B w g room L A c) (hk : Trk L) (os : s.ok) (hlen : L.length ≤ 1048576) :
    Calls Try.prog 17 #[.pointer (some ⟨g, 0, none⟩), .agg #[.int .i64 s.1.1, .int .i64 s.1.2, .int .i64 s.2]] w fun e w' => ∃ v, e = .returned v ∧ IntsAt w' w.heap.size v ((L.take (fT L s)).map (·.2)) ∧ TB B w' g room (L.drop (fT L s)) A c ∧ Only (g :: A.toList.map (·.block)) w w' := by
  unfold fT
  cases hr : stR s with
  | true => rw [if_pos rfl]; exact free_any hT hk os hr hlen
  | false =>
    rw [if_neg (by simp)]
    refine (free_wrong os hr w).mono ?_
    rintro e w' ⟨rfl, o⟩
    exact ⟨_, rfl, .inl ⟨rfl, rfl⟩, hT.keep o, o.mono (fun _ h => by simp at h)⟩
/-- entries that count from 0 on -/
def Cnt (L : List En) : Prop := ∀ (i : Nat) (e : En), L[i]? = some e → e.2 = (i : Int)
theorem Cnt.nil : Cnt [] := fun i e h => by simp at h
theorem Cnt.put {L : List En} (h : Cnt L) (room : Int) (s : St) : Cnt (putL L room s (L.length : Int)) := by
  unfold putL
  split
  · intro i e he
    rcases Nat.lt_or_ge i L.length with hi | hi
    · rw [List.getElem?_append_left hi] at he
      exact h i e he
    · rw [List.getElem?_append_right hi] at he
      have : i - L.length < 1 := (List.getElem?_eq_some_iff.1 he).1
      have e0 : i = L.length := by omega
      subst e0
      simp at he
      rw [← he]
  · exact h
theorem put_len (L : List En) (room : Int) (s : St) (x : Int) : ((putL L room s x).length : Int) = if putE L room s = 0 then (L.length : Int) + 1 else (L.length : Int) := by
  unfold putL
  split <;> simp
theorem put_len_le (L : List En) (room : Int) (s : St) (x : Int) : (putL L room s x).length ≤ L.length + 1 := by
  unfold putL
  split <;> simp
theorem len_nil_int {w : World} {B : Nat} {v : Value} {xs : List Int} (hv : IntsAt w B v xs) : ∃ A c, v = .slice A xs.length c ∧ ∀ i x, xs[i]? = some x → ∃ h, A = some ⟨h, 0, none⟩ ∧ B ≤ h ∧ h < w.heap.size ∧ w.cell? ⟨h, i, none⟩ = some (.int .i64 x) := by
  rcases hv with ⟨rfl, rfl⟩ | ⟨h, rfl, hB, hb⟩
  · exact ⟨none, 0, rfl, fun i x h => by simp at h⟩
  · refine ⟨some ⟨h, 0, none⟩, xs.length, rfl, fun i x hx => ⟨h, rfl, hB, hb.lt, ?_⟩⟩
    have := hb.cell i
    rw [this]
    simp [hx]
/-- a row of numbers below N -/
def RowI (N : Nat) (w : World) (A : Option Addr) (m : Nat) (val : Nat → Int) : Prop :=
  ∀ i, i < m → ∃ h, A = some ⟨h, 0, none⟩ ∧ h < N ∧ h < w.heap.size ∧ w.cell? ⟨h, i, none⟩ = some (.int .i64 (val i))
theorem RowI.besides {N : Nat} {S : List Nat} {w w' : World} {A : Option Addr} {m : Nat} {val : Nat → Int} (h : RowI N w A m val) (ho : Only S w w') (hS : ∀ b ∈ S, N ≤ b) : RowI N w' A m val := fun i hi => by
  obtain ⟨b, hA, hb, hw, hc⟩ := h i hi
  have := ho.size
  exact ⟨b, hA, hb, by omega, (ho.cell (p := ⟨b, i, none⟩) hw (fun k => by have := hS b k; omega)).trans hc⟩
theorem IntsAt.row {w : World} {B N : Nat} {v : Value} {xs : List Int} {m : Nat} {val : Nat → Int} (hv : IntsAt w B v xs) (hm : xs.length = m) (hx : ∀ i, i < m → xs[i]? = some (val i)) (hN : N = w.heap.size) : ∃ A c, v = .slice A m c ∧ RowI N w A m val := by
  subst hm
  obtain ⟨A, c, rfl, h⟩ := len_nil_int hv
  refine ⟨A, c, rfl, fun i hi => ?_⟩
  obtain ⟨b, hA, _, hb, hc⟩ := h i _ (hx i hi)
  exact ⟨b, hA, by omega, hb, hc⟩
structure FK (w : World) (N rb g : Nat) (E2 : List En) (A1 : Option Addr) (c1 : Nat) (AF AB : Option Addr) (f nb : Nat) (vb : Nat → Int) (wr : World) : Prop where
  o : Only [] w wr
  r : Blk wr rb 4 #[.bool false]
  hr : rb < N
  rf : RowI N wr AF f (fun i => (i : Int))
  rw : RowI N wr AB nb vb
  t : TB g wr g 200 E2 A1 c1
  tb : ∀ y ∈ g :: A1.toList.map (·.block), y < N
  hw : w.heap.size ≤ N
theorem FK.step {w : World} {N rb g : Nat} {E2 : List En} {A1 : Option Addr} {c1 : Nat} {AF AB : Option Addr} {f nb : Nat} {vb : Nat → Int} {wr wr' : World} {S : List Nat} (h : FK w N rb g E2 A1 c1 AF AB f nb vb wr) (o : Only S wr wr') (hS : ∀ b ∈ S, N ≤ b) : FK w N rb g E2 A1 c1 AF AB f nb vb wr' :=
  ⟨h.o.trans o (fun x hx => .inr (by have := hS x hx; have := h.hw; omega)), o.blk h.r (fun k => by have := hS _ k; have := h.hr; omega), h.hr, h.rf.besides o hS, h.rw.besides o hS,
    h.t.keeps o (fun k => by have := hS _ k; have := h.tb g (by simp); omega) (fun p hp k => by have := hS _ k; have := h.tb p.block (by simp [hp]); omega), h.tb, h.hw⟩
theorem FK.keepC {w : World} {N rb g : Nat} {E2 : List En} {A1 : Option Addr} {c1 : Nat} {AF AB : Option Addr} {f nb : Nat} {vb : Nat → Int} {wr wr' : World} {B : Nat} (h : FK w N rb g E2 A1 c1 AF AB f nb vb wr) (hk : KeepC B wr wr') (hB : w.heap.size ≤ B) : FK w N rb g E2 A1 c1 AF AB f nb vb wr' := by
  have hs := hk.size
  have row : ∀ {A : Option Addr} {m : Nat} {val : Nat → Int}, RowI N wr A m val → RowI N wr' A m val := fun h i hi => by
    obtain ⟨b, hA, hb, hw, hc⟩ := h i hi
    exact ⟨b, hA, hb, by omega, hk.cell hc⟩
  exact ⟨h.o.keepC hk hB, hk.blk h.r, h.hr, row h.rf, row h.rw, ⟨hk.blk h.t.blk, ownsRow_keepC hk h.t.own, h.t.base⟩, h.tb, h.hw⟩
theorem cnt_take {E : List En} (hC : Cnt E) {u f : Nat} (hu : u ≤ E.length) (hf : f ≤ u) : ((E.take u).take f).length = f ∧ ∀ i, i < f → (((E.take u).take f).map (·.2))[i]? = some (i : Int) := by
  refine ⟨by simp; omega, fun i hi => ?_⟩
  rw [List.getElem?_map, List.getElem?_take_of_lt hi, List.getElem?_take_of_lt (by omega), List.getElem?_eq_getElem (show i < E.length by omega)]
  simp [hC i _ (List.getElem?_eq_getElem (show i < E.length by omega))]
theorem cnt_drop {E : List En} (hC : Cnt E) {u : Nat} (hu : u ≤ E.length) : (((E.drop u).map (·.2)).reverse).length = E.length - u ∧ ∀ i, i < E.length - u → (((E.drop u).map (·.2)).reverse)[i]? = some ((E.length : Int) - 1 - i) := by
  refine ⟨by simp, fun i hi => ?_⟩
  have hl : ((E.drop u).map (·.2)).length = E.length - u := by simp
  rw [List.getElem?_reverse (by rw [hl]; exact hi), hl, List.getElem?_map, List.getElem?_drop]
  have hk : u + (E.length - u - 1 - i) < E.length := by omega
  rw [List.getElem?_eq_getElem hk]
  simp [hC _ _ (List.getElem?_eq_getElem hk)]
  omega
theorem cnt_mid {E : List En} (hC : Cnt E) {u f : Nat} (hu : u ≤ E.length) (hf : f ≤ u) : ((E.take u).drop f).length = u - f ∧ ∀ k (hk : k < ((E.take u).drop f).length), (((E.take u).drop f)[k]).2 = (f : Int) + k := by
  refine ⟨by simp; omega, fun k hk => ?_⟩
  have hl : k < u - f := by simp at hk; omega
  have h1 : ((E.take u).drop f)[k]? = E[f + k]? := by
    rw [List.getElem?_drop, List.getElem?_take_of_lt (by omega)]
  rw [List.getElem?_eq_getElem hk] at h1
  have := hC (f + k) _ h1.symm
  rw [this]
  omega
end Go.Proofs.Ytcggeogpanackaa
