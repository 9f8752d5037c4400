/- What is on the links, the document's and the program's. -/
import Derived.Test.YtlhmhpopppfpkaaRAll
import Derived.Test.YtlhmhpopppfpkaaHeads
import Derived.Test.YtlhmhpopppfpkaaPlays
namespace Go.Proofs.Ytlhmhpopppfpkaa
open Go.RowKit Go.Kx Go.Maps
set_option maxRecDepth 20000

/-- nothing is on a link from a process to itself -/
def DG (Ls : List (Pr × Lane)) : Prop := ∀ p : Pr, p.1 = p.2 → laneX Ls p = []
theorem DG.nil : DG [] := fun _ _ => rfl
theorem onL_nil_of {m : List It} (h : ∀ p : Pr, p.1 = p.2 → onL m p = []) : ∀ x ∈ m, x.1.1 ≠ x.1.2 := fun x hx e => by
  have := h x.1 e
  unfold onL at this
  have hm : x ∈ m.filter fun e => e.1 == x.1 := List.mem_filter.2 ⟨hx, by simp⟩
  rw [List.map_eq_nil_iff] at this
  rw [this] at hm
  cases hm
theorem DG.rel {Ls : List (Pr × Lane)} {m : List It} (h : DG Ls) (r : Rel Ls m) : ∀ x ∈ m, x.1.1 ≠ x.1.2 := onL_nil_of (fun p hp => by rw [← r.at_]; exact h p hp)
theorem DG.of_rel {Ls : List (Pr × Lane)} {m : List It} (r : Rel Ls m) (h : ∀ x ∈ m, x.1.1 ≠ x.1.2) : DG Ls := fun p hp => by
  rw [r.at_]
  exact onL_none (fun x hx e => h x hx (by rw [e]; exact hp))
theorem sentM_ne {n room : Nat} {Ls : List (Pr × Lane)} {m : List It} {a b v : Int} (h : ∀ x ∈ m, x.1.1 ≠ x.1.2) : ∀ x ∈ sentM n room Ls m a b v, x.1.1 ≠ x.1.2 := fun x hx => by
  unfold sentM at hx
  split at hx
  · rename_i e
    rcases List.mem_append.1 hx with hx | hx
    · exact h x hx
    · simp at hx
      subst hx
      dsimp only
      intro hab
      have hb : Bad n a b := by unfold Bad; omega
      unfold sendE at e
      rw [if_pos hb] at e
      cases e
  · exact h x hx
theorem DG.sent {Ls Ls' : List (Pr × Lane)} {m : List It} {n room : Nat} {a b v : Int} (h : DG Ls) (r : Rel Ls m) (r' : Rel Ls' (sentM n room Ls m a b v)) : DG Ls' := DG.of_rel r' (sentM_ne (h.rel r))
theorem DG.took {Ls : List (Pr × Lane)} (h : DG Ls) (hn : (Ls.map (·.1)).Nodup) (p : Pr) : DG (tailX Ls p) := fun q hq => by
  rw [laneX_tail hn, h q hq]
  split <;> rfl
theorem flat_congr' {α β : Type} {f g : α → List β} : ∀ (l : List α), (∀ a ∈ l, f a = g a) → l.flatMap f = l.flatMap g
  | [], _ => rfl
  | a :: l, h => by rw [List.flatMap_cons, List.flatMap_cons, h a (by simp), flat_congr' l (fun x hx => h x (by simp [hx]))]
theorem flat_filter {α β : Type} (f : α → List β) (q : α → Bool) : ∀ (l : List α), (∀ a ∈ l, q a = false → f a = []) → (l.filter q).flatMap f = l.flatMap f
  | [], _ => rfl
  | a :: l, h => by
    have ih := flat_filter f q l (fun x hx => h x (by simp [hx]))
    cases hq : q a with
    | true => rw [List.filter_cons_of_pos hq, List.flatMap_cons, List.flatMap_cons, ih]
    | false => rw [List.filter_cons_of_neg (by simp [hq]), List.flatMap_cons, h a (by simp) hq, ih]; rfl
theorem onL_sel {m : List It} (a b : Nat) : (onL m ((a : Int), (b : Int))).map (fun v => ((((a : Int), (b : Int)) : Pr), v)) = selM false m a b := by
  unfold onL selM
  rw [List.map_map]
  simp only [Bool.false_eq_true, if_false]
  conv => rhs; rw [← List.map_id (m.filter fun e => e.1 == ((a : Int), (b : Int)))]
  refine List.map_congr_left fun e he => ?_
  have := (List.mem_filter.1 he).2
  simp at this
  obtain ⟨p, v⟩ := e
  dsimp only at this
  subst this
  rfl
theorem hdL_sel {m : List It} (a b : Nat) : ((onL m ((a : Int), (b : Int))).take 1).map (fun v => ((((a : Int), (b : Int)) : Pr), v)) = selM true m a b := by
  rw [List.map_take, onL_sel]
  simp [selM]
theorem rowP_flat {β : Type} (f : Pr → List β) (a n : Nat) (h : f ((a : Int), (a : Int)) = []) : (rowP a n).flatMap f = (List.range n).flatMap fun (j : Nat) => f ((a : Int), (j : Int)) := by
  unfold rowP
  rw [List.flatMap_map]
  refine flat_filter _ _ _ (fun j _ hj => ?_)
  have : j = a := by simpa using hj
  subst this
  exact h
theorem onP_all {Ls : List (Pr × Lane)} {m : List It} (r : Rel Ls m) (h : DG Ls) (n : Nat) : onP Ls (prs n) = allA false m n := by
  unfold onP prs allA rowA
  rw [List.flatMap_assoc]
  refine flat_congr' _ (fun i _ => ?_)
  rw [rowP_flat _ i n (by rw [h _ rfl]; rfl)]
  exact flat_congr' _ (fun j _ => by rw [r.at_]; exact onL_sel i j)
theorem hdP_all {Ls : List (Pr × Lane)} {m : List It} (r : Rel Ls m) (h : DG Ls) (n : Nat) : hdP Ls (prs n) = allA true m n := by
  unfold hdP prs allA rowA
  rw [List.flatMap_assoc]
  refine flat_congr' _ (fun i _ => ?_)
  rw [rowP_flat _ i n (by rw [h _ rfl]; rfl)]
  exact flat_congr' _ (fun j _ => by rw [r.at_]; exact hdL_sel i j)
theorem TB.keep {w0 w w' : World} {g bm n room : Nat} {Ls : List (Pr × Lane)} {mb : Nat} {A : Option Addr} {c : Nat} {m : List It} (h : TB w0 w g bm n room Ls mb A c m) (o : Only [] w w') : TB w0 w' g bm n room Ls mb A c m :=
  ⟨h.nb.keep o, h.rn.keep o, h.off.next o.size (fun _ h => .inl h), h.o.trans o (by simp)⟩
theorem TB.net {w0 w w' : World} {g bm n room : Nat} {Ls Ls' : List (Pr × Lane)} {mb : Nat} {A : Option Addr} {c : Nat} {m : List It} (h : TB w0 w g bm n room Ls mb A c m) (hn : NB w0.heap.size w' g bm n room Ls') (o : Only (netS bm Ls) w w') (hf : ∀ x ∈ netS bm Ls', x ∈ netS bm Ls ∨ w.heap.size ≤ x) : TB w0 w' g bm n room Ls' mb A c m :=
  ⟨hn, h.rn.off o (fun x hx hm => (h.off x hx).2 (List.mem_cons_of_mem _ hm)), h.off.next o.size hf, h.o.trans o (h.nb.fresh (Nat.le_refl _))⟩
theorem TB.doc {w0 w w' : World} {g bm n room : Nat} {Ls : List (Pr × Lane)} {mb : Nat} {A A' : Option Addr} {c c' : Nat} {m m' : List It} (h : TB w0 w g bm n room Ls mb A c m) (hr : RN w0.heap.size w' mb n room m' A' c') (o : Only [mb] w w') (hf : A' = A ∨ ∀ p, A' = some p → w.heap.size ≤ p.block) : TB w0 w' g bm n room Ls mb A' c' m' := by
  have hmn := (h.off mb (by simp [rnS])).2
  refine ⟨h.nb.only o (fun x hx hm => hmn (by simp at hm; rw [← hm]; exact hx)), hr, ?_, h.o.trans o (fun x hx => by simp at hx; subst hx; exact .inr h.rn.base)⟩
  intro x hx
  have hz := o.size
  have old : x ∈ rnS mb A → x < w'.heap.size ∧ x ∉ g :: netS bm Ls := fun hx => by
    obtain ⟨h1, h2⟩ := h.off x hx
    exact ⟨by omega, h2⟩
  rcases hf with rfl | hf
  · exact old hx
  · refine ⟨hr.below x hx, ?_⟩
    rcases List.mem_cons.1 hx with rfl | hx
    · exact hmn
    · cases A' with
      | none => simp at hx
      | some p =>
        simp at hx
        subst hx
        intro hm
        have := h.nb.below _ hm
        have := hf p rfl
        omega
theorem send_tb {w0 w : World} {g bm n room : Nat} {Ls : List (Pr × Lane)} {mb : Nat} {A : Option Addr} {c : Nat} {m : List It} (h : TB w0 w g bm n room Ls mb A c m) {a b : Int} (v : Int) (ha : I64 a) (hb : I64 b) (hlen : Ls.length ≤ 1048576) :
    Calls Try.prog 10 #[.pointer (some ⟨g, 0, none⟩), .int .i64 a, .int .i64 b, .int .i64 v] w fun e w' => e = .returned (.int .i64 (sendE n room Ls a b)) ∧ ∃ Ls', TB w0 w' g bm n room Ls' mb A c m ∧ Ls'.length ≤ Ls.length + 1 ∧ (∀ M, Rel Ls M → Rel Ls' (sentM n room Ls M a b v)) := by
  refine (send_any h.nb h.o.size v ha hb hlen).mono ?_
  rintro e w' ⟨he, Ls', hN, h0, h1, o, hf⟩
  refine ⟨he, Ls', h.net hN o hf, ?_, fun M hr => ?_⟩
  · by_cases e0 : sendE n room Ls a b = 0
    · exact (h0 e0).len
    · rw [h1 e0]; omega
  · unfold sentM
    by_cases e0 : sendE n room Ls a b = 0
    · rw [if_pos e0]; exact hr.sent (h0 e0)
    · rw [if_neg e0, h1 e0]; exact hr
theorem rsend_tb {w0 w : World} {g bm n room : Nat} {Ls Lq : List (Pr × Lane)} {mb : Nat} {A : Option Addr} {c : Nat} {m : List It} (h : TB w0 w g bm n room Ls mb A c m) {a b : Int} (v : Int) (hc : (laneX Lq (a, b)).length = cntM m (a, b)) (hl : m.length ≤ 1000000) :
    Calls Try.prog 13 #[.pointer (some ⟨mb, 0, none⟩), .int .i64 a, .int .i64 b, .int .i64 v] w fun e w' => e = .returned (.int .i64 (sendE n room Lq a b)) ∧ ∃ A' c', TB w0 w' g bm n room Ls mb A' c' (sentM n room Lq m a b v) :=
  (rsend_all h.rn v hc hl h.o.size).mono fun _ _ ⟨he, A', c', hR, o, hf⟩ => ⟨he, A', c', h.doc hR o hf⟩
theorem take_tb {w0 w : World} {g bm n room : Nat} {Ls : List (Pr × Lane)} {mb : Nat} {A : Option Addr} {c : Nat} {m : List It} (h : TB w0 w g bm n room Ls mb A c m) {a b : Int} (ha : I64 a) (hb : I64 b) :
    Calls Try.prog 11 #[.pointer (some ⟨g, 0, none⟩), .int .i64 a, .int .i64 b] w fun e w' => e = .returned (.tuple #[.int .i64 (hdI (laneX Ls (a, b))), .bool (anyI (laneX Ls (a, b)))]) ∧ TB w0 w' g bm n room (tailX Ls (a, b)) mb A c m :=
  (take_any h.nb h.o.size ha hb).mono fun _ _ ⟨he, hN, o⟩ => ⟨he, h.net hN o (fun x hx => .inl (tailX_bs x hx))⟩
theorem rtake_tb {w0 w : World} {g bm n room : Nat} {Ls Lq : List (Pr × Lane)} {mb : Nat} {A : Option Addr} {c : Nat} {m : List It} (h : TB w0 w g bm n room Ls mb A c m) (hn : (Lq.map (·.1)).Nodup) (hr : Rel Lq m) (a b : Int) (hl : m.length ≤ 1000000) :
    Calls Try.prog 14 #[.pointer (some ⟨mb, 0, none⟩), .int .i64 a, .int .i64 b] w fun e w' => e = .returned (.tuple #[.int .i64 (hdI (laneX Lq (a, b))), .bool (anyI (laneX Lq (a, b)))]) ∧ ∃ m' A' c', TB w0 w' g bm n room Ls mb A' c' m' ∧ Rel (tailX Lq (a, b)) m' ∧ m'.length ≤ m.length :=
  (rtake_all h.rn hn hr a b hl h.o.size).mono fun _ _ ⟨he, m', A', c', hR, r, hl', o, hf⟩ => ⟨he, m', A', c', h.doc hR o hf, r, hl'⟩
def gI (M : List It) (k : Nat) : It := (M[k]?).getD ((0, 0), 0)
theorem valsN_of {M : List It} {k : Nat} {v : Array Value} (h : (valsN M)[k]? = some v) : ∃ e, M[k]? = some e ∧ v = #[.agg #[.int .i64 e.1.1, .int .i64 e.1.2], .int .i64 e.2] := by
  unfold valsN at h
  rw [List.getElem?_map] at h
  cases hm : M[k]? with
  | none => rw [hm] at h; cases h
  | some e => rw [hm] at h; injection h with h; exact ⟨e, rfl, h.symm⟩
theorem row3_at {w : World} {A : Option Addr} {M : List It} (h : Row3 w A M) {k : Nat} {e : It} (he : M[k]? = some e) :
    ∃ b o, A = some ⟨b, o, none⟩ ∧ b < w.heap.size ∧ w.cell? ⟨b, o + k * 3, none⟩ = some (.int .i64 e.1.1) ∧ w.cell? ⟨b, o + k * 3 + 1, none⟩ = some (.int .i64 e.1.2) ∧ w.cell? ⟨b, o + k * 3 + 2, none⟩ = some (.int .i64 e.2) := by
  obtain ⟨f0, f1, f2⟩ := flat3_at M k e he
  obtain ⟨b, o, hA, hb, h0⟩ := h _ _ f0
  obtain ⟨b1, o1, hA1, _, h1⟩ := h _ _ f1
  obtain ⟨b2, o2, hA2, _, h2⟩ := h _ _ f2
  rw [hA] at hA1 hA2
  cases hA1
  cases hA2
  exact ⟨b, o, hA, hb, h0, h1, h2⟩
theorem TB.only {S : List Nat} {w0 w w' : World} {g bm n room : Nat} {Ls : List (Pr × Lane)} {mb : Nat} {A : Option Addr} {c : Nat} {m : List It} (h : TB w0 w g bm n room Ls mb A c m) (o : Only S w w') (hS : ∀ x, x ∈ g :: netS bm Ls ∨ x ∈ rnS mb A → x ∉ S) (h0 : ∀ x ∈ S, w0.heap.size ≤ x) : TB w0 w' g bm n room Ls mb A c m :=
  ⟨h.nb.only o (fun x hx => hS x (.inl hx)), h.rn.off o (fun x hx => hS x (.inr hx)), h.off.next o.size (fun _ h => .inl h), h.o.trans o (fun x hx => .inr (h0 x hx))⟩
end Go.Proofs.Ytlhmhpopppfpkaa
