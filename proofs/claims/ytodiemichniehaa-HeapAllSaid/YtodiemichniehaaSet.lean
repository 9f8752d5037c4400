/- Set. -/
import Derived.Test.YtodiemichniehaaOps2
namespace Go.Proofs.Ytodiemichniehaa
open Go.RowKit Go.Kx Go.Maps
set_option maxRecDepth 20000

theorem flat2_by {L : List Ent} {i : Nat} {k b x : Int} (hi : L[i]? = some (k, b)) : (flat2 L).set (i * 2 + 1) (.int .i64 x) = flat2 (L.set i (k, x)) := by
  have hil : i < L.length := (List.getElem?_eq_some_iff.1 hi).1
  rw [flat2_set, if_pos hil]
  have h0 := (flat2_at L i _ hi).1
  have h1 := List.getElem?_eq_some_iff.1 h0
  have h2 : (flat2 L).set (i * 2) (.int .i64 k) = flat2 L := by
    have h3 : (flat2 L).set (i * 2) ((flat2 L)[i * 2]'h1.1) = flat2 L := List.set_getElem_self h1.1
    rw [h1.2] at h3
    exact h3
  show _ = ((flat2 L).set (i * 2) (.int .i64 k)).set (i * 2 + 1) (.int .i64 x)
  rw [h2]
theorem keys_set {L : List Ent} {i : Nat} {k b x : Int} (hi : L[i]? = some (k, b)) : (L.set i (k, x)).map (·.1) = L.map (·.1) := by
  rw [List.map_set]
  have : (L.map (·.1))[i]? = some k := by simp [hi]
  have h2 := List.getElem?_eq_some_iff.1 this
  have h3 : (L.map (·.1)).set i ((L.map (·.1))[i]'h2.1) = L.map (·.1) := List.set_getElem_self h2.1
  rw [h2.2] at h3
  exact h3
theorem set_there {B : Nat} {w : World} {g bm : Nat} {L m : List Ent} {p c : Nat} (hH : HB B w g (some bm) L (some ⟨p, 0, none⟩) c) (hS : HS L m) {i : Nat} {k b x : Int} (hi : L[i]? = some (k, b)) (hx : I64 x) (hl : L.length ≤ 1048576) :
    Calls Try.prog 11 #[.pointer (some ⟨g, 0, none⟩), .int .i64 k, .int .i64 x] w fun e w' => e = .returned (.tuple #[]) ∧ ∃ L', HB B w' g (some bm) L' (some ⟨p, 0, none⟩) c ∧ HS L' (setM m (k, x)) ∧ Only (heapS g (some ⟨p, 0, none⟩) (some bm)) w w' := by
  obtain ⟨g0, g1, g2, gl⟩ := hH.blk.facts3
  obtain ⟨D, hD, hAt⟩ := hH.map bm rfl
  have hk : I64 k := (hH.okAt hi).1
  have hil : i < L.length := (List.getElem?_eq_some_iff.1 hi).1
  have hhas : Maps.has D (ik k) = true := by rw [hAt.has_]; exact hasM_at hi
  have hat0 : ∀ z, D.atKey (ik k) z = iv i := hAt.at_ i _ hi
  have i0 : (0 : Int) ≤ (i : Int) := by omega
  have i1 : (i : Int) < (L.length : Int) := by omega
  obtain ⟨p', hp', pl, -, d0, d1⟩ := own_cell rfl hH.own hi
  injection hp' with hp'; injection hp' with hp'; subst hp'
  have hgp : g ≠ p := fun e => owns_ne hH.own hH.blk (by decide) (by rw [e]; rfl)
  have hmp : bm ≠ p := fun e => (hH.map bm rfl).ne_own hH.own (by rw [e]; rfl)
  have fz1 : w.frozen? ⟨p, i * 2 + 1, none⟩ = false := by
    obtain ⟨cur, hq, _⟩ := own_blk hH.own
    exact hq.frozen _
  have o1 : Only [p] w (w.setCell ⟨p, i * 2 + 1, none⟩ (.int .i64 x)) := only_setCell w ⟨p, i * 2 + 1, none⟩ _
  have h1 : HB B (w.setCell ⟨p, i * 2 + 1, none⟩ (.int .i64 x)) g (some bm) (L.set i (k, x)) (some ⟨p, 0, none⟩) c := by
    have hsl : (L.set i (k, x)).length = L.length := by simp
    refine ⟨by rw [hsl]; exact o1.blk hH.blk (by simpa using hgp), ?_, fun e he => ?_, fun bm' e => ?_, by rw [keys_set hi]; exact hH.nd, hH.base⟩
    · rw [hsl, ← flat2_by hi]
      exact own_set1 hH.own
    · rcases List.mem_or_eq_of_mem_set he with h | h
      · exact hH.ok e h
      · subst h; exact ⟨hk, hx⟩
    · injection e with e
      subst e
      exact ⟨D, by rw [hsl]; exact ownsMap_only hD o1 (by simpa using hmp), hAt.set_by hi⟩
  have hst := settle_some h1 (i := i) (by simpa using hil) (by simpa using hl) ((hS.heap.sinks i).rises.set _)
  have HO := Lib.hid o1
  clear hAt hH h1 o1
  go_enter Try.func11, Try.ntmps11
  go_wp2_with (at_lookup; refine wpList_lookup_own_ok_int _ rfl _ _ 61 rfl 3 3 .i64 law3 Try.underlying61 Try.underlying3 (zero3 _) bm L.length D rfl hD _ _ rfl (key_of hk) ?_; intro c hat hwc; rw [hat0] at hat; (injection hat with hat); (injection hat with _ hat); subst hat; rw [hhas]; clear hwc)
  refine hst.mono ?_
  clear hst g0 g1 g2 gl hD
  rintro e w1 ⟨rfl, L', h', hp, hh, o⟩
  have HH' := Lib.hid h'
  have HO' := Lib.hid o
  clear h' o
  go_wp2_with (fail)
  go_end0
  exact ⟨rfl, L', HH'.out, hS.set hi hp hh, (HO.out.mono (S' := heapS g (some ⟨p, 0, none⟩) (some bm)) (fun y h => .inl (by simp at h; simp [h]))).trans HO'.out (fun y h => .inl (by simp at h ⊢; rcases h with h | h <;> simp [h]))⟩
theorem set_new {B : Nat} {w : World} {g bm : Nat} {L m : List Ent} {A : Option Addr} {c : Nat} (hH : HB B w g (some bm) L A c) (hS : HS L m) {k x : Int} (hi : hasM L k = false) (hk : I64 k) (hx : I64 x) (hl : L.length < 1048576) (hB : B ≤ w.heap.size) :
    Calls Try.prog 11 #[.pointer (some ⟨g, 0, none⟩), .int .i64 k, .int .i64 x] w fun e w' => e = .returned (.tuple #[]) ∧ ∃ L' A' c', HB B w' g (some bm) L' A' c' ∧ HS L' (setM m (k, x)) ∧ Only (heapS g A (some bm)) w w' ∧ ∀ p, A' = some p → A = some p ∨ w.heap.size ≤ p.block := by
  obtain ⟨g0, g1, g2, gl⟩ := hH.blk.facts3
  obtain ⟨D, hD, hAt⟩ := hH.map bm rfl
  have hhas : Maps.has D (ik k) = false := by rw [hAt.has_]; exact hi
  have hmg : bm ≠ g := (hH.map bm rfl).ne hH.blk
  have hmA : ∀ p, A = some p → bm ≠ p.block := fun p e k => (hH.map bm rfl).ne_own hH.own (by rw [e, k]; rfl)
  have hgA : ∀ p, A = some p → g ≠ p.block := fun p e k => owns_ne hH.own hH.blk (by decide) (by rw [e, k]; rfl)
  have HH := Lib.hid hH
  have HAt := Lib.hid (hAt.put_new (by_ := x) hi)
  clear hH hAt
  go_enter Try.func11, Try.ntmps11
  go_wp2_with (first | (at_lookup; refine wpList_lookup_own_ok_int _ rfl _ _ 61 rfl 3 3 .i64 law3 Try.underlying61 Try.underlying3 (zero3 _) bm L.length D rfl hD _ _ rfl (key_of hk) ?_; intro cz hat hwc; rw [hhas]; clear hwc hat) | (at_mapUpdate; refine wpList_mapUpdate_own _ rfl _ _ _ 61 rfl 3 3 law3 Try.underlying61 _ bm L.length D rfl hD (by unfold maxLen; omega) _ _ (ik k) rfl rfl (key_of hk) (iv L.length) [] (val_of (by omega)) ?_; intro W2 hown2 hgrow2; have o2 : Only [bm] w W2 := Only.of_grownBy hgrow2; have hb2 := o2.blk HH.out.blk (by simpa using Ne.symm hmg); have hw2 := ownsRow_only o2 HH.out.own (fun b hb => by cases A with | none => simp [Value.ownBlock] at hb | some p => simp [Value.ownBlock] at hb; subst hb; simpa using Ne.symm (hmA p rfl)); obtain ⟨q, c', W3, hrun, hw3, o3, hq⟩ := run_append2 (P := Try.prog) 40 51 Try.underlying51 en_info rfl hw2 (k, x) (Nat.le_trans hB o2.size) (by unfold maxLen; omega) (by omega); clear g0 g1 g2 gl; obtain ⟨g0, g1, g2, gl⟩ := hb2.facts3; have HB2 := Lib.hid hb2; have HO2 := Lib.hid o2; have HM2 := Lib.hid hown2; clear hb2 hw2 hgrow2 o2 hown2) | (at_builtin; refine wpList_append_run hrun rfl _ _ rfl rfl rfl rfl ?_; clear hrun; have hb3 := o3.blk HB2.out (fun h => by cases A with | none => simp [Value.ownBlock] at h | some p => simp [Value.ownBlock] at h; exact hgA p rfl h); clear g0 g1 g2 gl; obtain ⟨g0, g1, g2, gl⟩ := hb3.facts3; have fg1 := hb3.frozen 1; have HB3 := Lib.hid hb3; have HW3 := Lib.hid hw3; have HO3 := Lib.hid o3; clear hb3 hw3 o3))
  have hb4 : Blk (W3.setCell ⟨g, 1, none⟩ (.slice (some ⟨q, 0, none⟩) (L.length + 1) c')) g 63 #[FV, .slice (some ⟨q, 0, none⟩) (L.length + 1) c', .map (some bm)] := HB3.out.set_ 1 _
  have hgq : g ≠ q := fun e => owns_ne HW3.out HB3.out (by decide) (by rw [e]; rfl)
  have o4 : Only [g] W3 (W3.setCell ⟨g, 1, none⟩ (.slice (some ⟨q, 0, none⟩) (L.length + 1) c')) := only_setCell W3 ⟨g, 1, none⟩ _
  generalize W3.setCell ⟨g, 1, none⟩ (.slice (some ⟨q, 0, none⟩) (L.length + 1) c') = W4 at hb4 o4 ⊢
  have hlen : (L ++ [(k, x)]).length = L.length + 1 := by simp
  have hbA : bm ∉ (Value.slice A L.length c).ownBlock.toList := fun h => by
    cases A with
    | none => simp [Value.ownBlock] at h
    | some p => simp [Value.ownBlock] at h; exact hmA p rfl h
  have h4 : HB B W4 g (some bm) (L ++ [(k, x)]) (some ⟨q, 0, none⟩) c' := by
    refine ⟨by rw [hlen]; exact hb4, ?_, fun e he => ?_, fun bm' e => ?_, ?_, HH.out.base⟩
    · rw [hlen, flat2_snoc]
      exact ownsRow_only o4 HW3.out (fun b hb => by simp [Value.ownBlock] at hb; subst hb; simpa using Ne.symm hgq)
    · rcases List.mem_append.1 he with h | h
      · exact HH.out.ok e h
      · simp at h; subst h; exact ⟨hk, hx⟩
    · injection e with e
      subst e
      exact ⟨_, by rw [hlen]; exact ownsMap_only (ownsMap_only HM2.out HO3.out hbA) o4 (by simpa using hmg), HAt.out⟩
    · rw [List.map_append, List.nodup_append]
      refine ⟨HH.out.nd, by simp, fun a ha b hb => ?_⟩
      simp at hb
      subst hb
      obtain ⟨e, he, rfl⟩ := List.mem_map.1 ha
      exact hasM_false hi e he
  have oA : Only (heapS g A (some bm)) w W4 := ((HO2.out.mono (S' := heapS g A (some bm)) (fun y h => .inl (by simp at h; simp [h]))).trans HO3.out (fun y h => .inl (by
    cases A with
    | none => simp [Value.ownBlock] at h
    | some p => simp [Value.ownBlock] at h; subst h; simp))).trans o4 (fun y h => .inl (by simp at h; simp [h]))
  have hqn : (∃ p, A = some p ∧ p.block = q) ∨ w.heap.size ≤ q := by
    rcases hq with h | h
    · cases A with
      | none => simp [Value.ownBlock] at h
      | some p => simp [Value.ownBlock] at h; exact .inl ⟨p, rfl, h⟩
    · exact .inr (Nat.le_trans HO2.out.size h)
  refine (settle_some h4 (i := L.length) (by rw [hlen]; omega) (by rw [hlen]; omega) (hS.heap.push _)).mono ?_
  clear g0 g1 g2 gl fg1
  rintro e w5 ⟨rfl, L', h', hp, hh, o5⟩
  have HH' := Lib.hid h'
  have HO' := Lib.hid o5
  clear h' o5 h4 hb4
  go_wp2_with (fail)
  go_end0
  refine ⟨rfl, L', _, c', HH'.out, hS.push hi hp hh, oA.trans HO'.out (fun y h => ?_), fun p hp => ?_⟩
  · simp at h
    rcases h with h | h
    · subst h
      rcases hqn with ⟨p, rfl, h⟩ | h
      · exact .inl (by simp [h])
      · exact .inr h
    · exact .inl (by simp [h])
  · injection hp with hp
    subst hp
    rcases hqn with ⟨p, rfl, h⟩ | h
    · rcases (HH.out.own).2 with ⟨h1, _⟩ | ⟨q', _, cur, h1, _⟩
      · cases h1
      · injection h1 with h1
        injection h1 with h1
        subst h1
        exact .inl (by rw [← h])
    · exact .inr h
theorem set_any {B : Nat} {w : World} {g bm : Nat} {L m : List Ent} {A : Option Addr} {c : Nat} (hH : HB B w g (some bm) L A c) (hS : HS L m) {k x : Int} (hk : I64 k) (hx : I64 x) (hl : L.length < 1048576) (hB : B ≤ w.heap.size) :
    Calls Try.prog 11 #[.pointer (some ⟨g, 0, none⟩), .int .i64 k, .int .i64 x] w fun e w' => e = .returned (.tuple #[]) ∧ ∃ L' A' c', HB B w' g (some bm) L' A' c' ∧ HS L' (setM m (k, x)) ∧ Only (heapS g A (some bm)) w w' ∧ ∀ p, A' = some p → A = some p ∨ w.heap.size ≤ p.block := by
  cases h : hasM L k with
  | false => exact set_new hH hS h hk hx hl hB
  | true =>
    obtain ⟨i, b, hi⟩ := hasM_true h
    obtain ⟨p, rfl⟩ := hH.someA (List.getElem?_eq_some_iff.1 hi).1
    exact (set_there hH hS hi hx (by omega)).mono fun e w' ⟨he, L', h1, h2, h3⟩ => ⟨he, L', _, c, h1, h2, h3, fun p hp => .inl hp⟩
end Go.Proofs.Ytodiemichniehaa
