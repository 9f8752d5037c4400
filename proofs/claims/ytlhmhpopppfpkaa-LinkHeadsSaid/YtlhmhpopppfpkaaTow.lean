/- Two rows that are appended to in one statement: a world that is on its way to what both rows are to hold. -/
import Derived.Test.YtlhmhpopppfpkaaFacts
import Derived.Test.YtlhmhpopppfpkaaRangeN
import Derived.Maps.AppendAt
namespace Go.Kx
open Go Go.RowKit

/-- Blocks other than R's are as they were; of those what was already as it is to be stays so. -/
structure Tow (R : List (Nat × List Value)) (w w' : World) : Prop where
  os : w'.os = w.os
  tape : w'.tape = w.tape
  output : w'.output = w.output
  size : w.heap.size ≤ w'.heap.size
  block : ∀ k, k < w.heap.size → (∀ T, (k, T) ∉ R) → w'.heap[k]? = w.heap[k]?
  row : ∀ k T, (k, T) ∈ R → ∀ cur t z, w.heap[k]? = some (.cells cur t z) → ∃ cur', w'.heap[k]? = some (.cells cur' t z) ∧ cur'.size = cur.size ∧ ∀ p, p <+: T → cur.toList.take p.length = p → cur'.toList.take p.length = p
theorem Tow.refl (R : List (Nat × List Value)) (w : World) : Tow R w w := ⟨rfl, rfl, rfl, Nat.le_refl _, fun _ _ _ => rfl, fun _ _ _ cur _ _ h => ⟨cur, h, rfl, fun _ _ h => h⟩⟩
theorem Tow.trans {R : List (Nat × List Value)} {a b c : World} (h : Tow R a b) (k : Tow R b c) : Tow R a c :=
  ⟨k.os.trans h.os, k.tape.trans h.tape, k.output.trans h.output, Nat.le_trans h.size k.size, fun i hi hn => (k.block i (Nat.lt_of_lt_of_le hi h.size) hn).trans (h.block i hi hn), fun i T hm cur t z hc => by
    obtain ⟨c1, h1, s1, p1⟩ := h.row i T hm cur t z hc
    obtain ⟨c2, h2, s2, p2⟩ := k.row i T hm c1 t z h1
    exact ⟨c2, h2, s2.trans s1, fun p hp e => p2 p hp (p1 p hp e)⟩⟩
theorem Tow.of_only {R : List (Nat × List Value)} {a b : World} (h : Only [] a b) : Tow R a b :=
  ⟨h.os, h.tape, h.output, h.size, fun k hk _ => h.block k hk (by simp), fun k T _ cur t z hc => ⟨cur, (h.block k (Array.getElem?_eq_some_iff.1 hc).1 (by simp)).trans hc, rfl, fun _ _ e => e⟩⟩
theorem Tow.mono {R R' : List (Nat × List Value)} {a b : World} (h : Tow R a b) (hR : ∀ x ∈ R, x ∈ R') (hu : ∀ k T T', (k, T) ∈ R' → (k, T') ∈ R → T = T') : Tow R' a b :=
  ⟨h.os, h.tape, h.output, h.size, fun k hk hn => h.block k hk (fun T hm => hn T (hR _ hm)), fun k T hm cur t z hc => by
    by_cases hx : ∃ T', (k, T') ∈ R
    · obtain ⟨T', hT⟩ := hx
      obtain rfl := hu k T T' hm hT
      exact h.row k T hT cur t z hc
    · exact ⟨cur, (h.block k (Array.getElem?_eq_some_iff.1 hc).1 (fun T' hT => hx ⟨T', hT⟩)).trans hc, rfl, fun _ _ e => e⟩⟩
theorem Tow.only {R : List (Nat × List Value)} {a b : World} (h : Tow R a b) : Only (R.map (·.1)) a b :=
  ⟨h.os, h.tape, h.output, h.size, fun k hk hn => h.block k hk (fun T hm => hn (List.mem_map.2 ⟨_, hm, rfl⟩))⟩
theorem Tow.own {R : List (Nat × List Value)} {w w' : World} (h : Tow R w w') {base : Nat} {e : TypeId} {size : Nat} {v : Value} {n : Nat} {xs : List Value} (ho : w.ownsRow base e size v n xs)
    (hx : ∀ k T, v.ownBlock = some k → (k, T) ∈ R → xs <+: T) : w'.ownsRow base e size v n xs := by
  obtain ⟨h1, h2⟩ := ho
  refine ⟨h1, ?_⟩
  rcases h2 with h2 | ⟨g, cap, cur, rfl, hg, hh, hn, hm, hs, ht⟩
  · exact .inl h2
  · by_cases hR : ∃ T, (g, T) ∈ R
    · obtain ⟨T, hT⟩ := hR
      obtain ⟨cur', hh', hs', hp⟩ := h.row g T hT cur e (0, 0) hh
      have := hp xs (hx g T rfl hT) (by rw [h1]; exact ht)
      rw [h1] at this
      exact .inr ⟨g, cap, cur', rfl, hg, hh', hn, hm, hs'.trans hs, this⟩
    · exact .inr ⟨g, cap, cur, rfl, hg, (h.block g (Array.getElem?_eq_some_iff.1 hh).1 (fun T hT => hR ⟨T, hT⟩)).trans hh, hn, hm, hs, ht⟩
theorem Tow.blk {R : List (Nat × List Value)} {w w' : World} (h : Tow R w w') {g : Nat} {t : TypeId} {cs : Array Value} (hb : Blk w g t cs) (hR : ∀ T, (g, T) ∉ R) : Blk w' g t cs := (h.block g hb.lt hR).trans hb

/-- append to a row of one's own: what it writes into -/
theorem run_append_tow {P : Program} {w : World} (base : Nat) (t ty e : TypeId) (i : TypeInfo) (z : Value) (size bytes : Nat) (ht : P.underlying t = some (.slice e)) (hi : P.info? e = some i) (hz : i.zero = some z)
    (hsize : i.size = size) (hby : i.bytes = bytes) (hzs : z.cells.size = size) (hsz : 0 < size)
    (v : Value) (n : Nat) (xs : List Value) (hown : w.ownsRow base e size v n xs)
    (a : Addr) (m c : Nat) (news : List Value) (hl : news.length = m * size) (hnews : ∀ j u, news[j]? = some u → w.cell? (a.add j) = some u) (h1 : ∀ u ∈ news, u.oneCell' = true)
    (h63 : n + m ≤ maxLen) (hbytes : (n + m) * bytes ≤ 140737488355328) (hbase : base ≤ w.heap.size) :
    ∃ v' w', (Builtin.append_ #[t, t] ty #[v, .slice (some a) m c]).run P w = .ok v' w' ∧ w'.ownsRow base e size v' (n + m) (xs ++ news) ∧ Tow (v.ownBlock.toList.map (·, xs ++ news)) w w' ∧
      (v'.ownBlock = v.ownBlock ∨ v'.ownBlock = some w.heap.size) := by
  obtain ⟨v', w', hr, ho, hg, _, hat⟩ := run_append_own_at (P := P) (w := w) base t ty e i z size bytes ht hi hz hsize hby hzs hsz v n xs hown a m c news hl hnews h1 h63 hbytes hbase
  refine ⟨v', w', hr, ho, ?_, hat⟩
  subst hsize
  subst hby
  rcases hown.2 with ⟨rfl, rfl⟩ | ⟨g, cap, cur, rfl, hbg, hgg, hnc, hcm, hcs, htake⟩
  · exact Tow.of_only (Only.of_grownBy hg)
  · by_cases hroom : n + m ≤ cap
    · have hfit : n * i.size + news.length ≤ cur.size := by rw [hl, hcs, ← Nat.add_mul]; exact Nat.mul_le_mul_right _ hroom
      have hr2 := run_append_room (P := P) w t ty e i ht hi g n cap cur hgg a m c news hl hnews h1 hroom hfit
      rw [hr] at hr2
      injection hr2 with _ hw
      rw [hw]
      refine ⟨rfl, rfl, rfl, by simp, fun k _ hk => setRow_other w g k _ (fun e => hk (xs ++ news) (by simp [Value.ownBlock, e])), fun k T hm cur0 t0 z0 hc => ?_⟩
      simp [Value.ownBlock] at hm
      obtain ⟨rfl, rfl⟩ := hm
      rw [hgg] at hc
      injection hc with hc
      injection hc with e1 e2 e3
      subst e1 e2 e3
      have hsz2 : n * i.size ≤ cur.size := by omega
      refine ⟨_, setRow_heap w _ cur _ e _ hgg, ?_, fun p hp _ => ?_⟩
      · simp only [List.size_toArray, List.length_append, List.length_take, List.length_drop, Array.length_toList]
        omega
      · rw [htake]
        obtain ⟨q, hq⟩ := hp
        show List.take p.length (xs ++ news ++ List.drop _ _) = p
        rw [← hq, List.append_assoc]
        exact List.take_left
    · have holds : ∀ j u, xs[j]? = some u → w.cell? ((⟨g, 0, none⟩ : Addr).add j) = some u := hown.cells (g := g) rfl
      have hsmall : n + m ≤ 9223372036854775807 := by simp only [maxLen] at h63; omega
      have hr2 := run_append_grow (P := P) w t ty e i z ht hi hz ⟨g, 0, none⟩ n cap xs hown.1 holds a m c news hl hnews (by omega) (by omega) (growslice_fits (by omega) hbytes)
      rw [hr] at hr2
      injection hr2 with _ hw
      rw [hw]
      exact Tow.of_only ((Only.refl [] w).drew.alloc _)

section
variable {P : Program} {ops : Array Oper} {Q : Exit → Act → World → Prop}
def Does3 (P : Program) (ops : Array Oper) (Q : Exit → Act → World → Prop) (fr : (Nat → Value) → Act) (w0 : World) (Rel : World → World → Prop) (F : Nat → Value → World → Prop) (i : Nat) (o : Oper) : Prop :=
  ∀ (vals : Nat → Value) (w : World), Rel w0 w → Pre F vals w o.after.toList →
    ∀ K : Act → World → Prop, Shut (∀ a w', (∃ v, a = (fr vals).put o.dst v ∧ Rel w w' ∧ F i v w') → K a w') → RunsOp P ops Q o K w (fr vals)
end
end Go.Kx
