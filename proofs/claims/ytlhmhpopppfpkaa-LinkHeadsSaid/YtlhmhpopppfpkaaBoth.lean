/- A net beside the document's. -/
import Derived.Test.YtlhmhpopppfpkaaRel
import Derived.Test.YtlhmhpopppfpkaaOpen
namespace Go.Proofs.Ytlhmhpopppfpkaa
open Go.RowKit Go.Kx Go.Maps
set_option maxRecDepth 20000

theorem NB.below {B : Nat} {w : World} {g bm n room : Nat} {Ls : List (Pr × Lane)} (h : NB B w g bm n room Ls) : ∀ x ∈ g :: netS bm Ls, x < w.heap.size := fun x hx => by
  rcases List.mem_cons.1 hx with rfl | hx
  · exact h.blk.lt
  · rcases List.mem_cons.1 hx with rfl | hx
    · exact h.mlt
    · obtain ⟨e, he, hx⟩ := List.mem_flatMap.1 hx
      exact (h.lo e he x hx).2.1
theorem NB.low {B G : Nat} {w : World} {g bm n room : Nat} {Ls : List (Pr × Lane)} (h : NB B w g bm n room Ls) (hG : G ≤ B) : NB G w g bm n room Ls :=
  ⟨h.blk, h.map, h.qu, fun e he x hx => by have := h.lo e he x hx; exact ⟨by omega, this.2⟩, h.apart, h.dims, by have := h.base; omega⟩
theorem NB.above {B : Nat} {w : World} {g bm n room : Nat} {Ls : List (Pr × Lane)} (h : NB B w g bm n room Ls) : ∀ x ∈ g :: netS bm Ls, B ≤ x := fun x hx => by
  have := h.base
  rcases List.mem_cons.1 hx with rfl | hx
  · omega
  · rcases List.mem_cons.1 hx with rfl | hx
    · omega
    · obtain ⟨e, he, hx⟩ := List.mem_flatMap.1 hx
      exact (h.lo e he x hx).1
theorem NB.g_out {B : Nat} {w : World} {g bm n room : Nat} {Ls : List (Pr × Lane)} (h : NB B w g bm n room Ls) : g ∉ netS bm Ls := fun hx => by
  rcases List.mem_cons.1 hx with e | hx
  · exact h.gm e
  · obtain ⟨e, he, hx⟩ := List.mem_flatMap.1 hx
    exact (h.lo e he g hx).2.2.1 rfl
/-- blocks that no net call touches -/
def Off (w : World) (g bm : Nat) (Ls : List (Pr × Lane)) (F : List Nat) : Prop := ∀ x ∈ F, x < w.heap.size ∧ x ∉ g :: netS bm Ls
theorem Off.next {w w' : World} {g bm : Nat} {Ls Ls' : List (Pr × Lane)} {F : List Nat} (h : Off w g bm Ls F) (ho : w.heap.size ≤ w'.heap.size) (hf : ∀ x ∈ netS bm Ls', x ∈ netS bm Ls ∨ w.heap.size ≤ x) : Off w' g bm Ls' F := fun x hx => by
  obtain ⟨h1, h2⟩ := h x hx
  refine ⟨by omega, fun hm => ?_⟩
  rcases List.mem_cons.1 hm with e | hm
  · exact h2 (by rw [e]; simp)
  · rcases hf x hm with h3 | h3
    · exact h2 (List.mem_cons_of_mem _ h3)
    · omega
theorem tailX_bs {bm : Nat} {Ls : List (Pr × Lane)} {p : Pr} : ∀ x ∈ netS bm (tailX Ls p), x ∈ netS bm Ls := fun x hx => by
  rcases List.mem_cons.1 hx with rfl | hx
  · simp
  · obtain ⟨e, he, hx⟩ := List.mem_flatMap.1 hx
    obtain ⟨f, hf, rfl⟩ := List.mem_map.1 he
    refine List.mem_cons_of_mem _ (List.mem_flatMap.2 ⟨f, hf, ?_⟩)
    by_cases e : f.1 = p
    · rw [if_pos e] at hx; exact hx
    · rw [if_neg e] at hx; exact hx
def sentM (n room : Nat) (Ls : List (Pr × Lane)) (m : List It) (a b v : Int) : List It := if sendE n room Ls a b = 0 then m ++ [((a, b), v)] else m
theorem rsend_all {B : Nat} {w : World} {mb n room : Nat} {m : List It} {A : Option Addr} {c : Nat} (h : RN B w mb n room m A c) {Ls : List (Pr × Lane)} {a b : Int} (v : Int) (hc : (laneX Ls (a, b)).length = cntM m (a, b)) (hl : m.length ≤ 1000000) (hB : B ≤ w.heap.size) :
    Calls Try.prog 13 #[.pointer (some ⟨mb, 0, none⟩), .int .i64 a, .int .i64 b, .int .i64 v] w fun e w' => e = .returned (.int .i64 (sendE n room Ls a b)) ∧ ∃ A' c', RN B w' mb n room (sentM n room Ls m a b v) A' c' ∧ Only [mb] w w' ∧ (A' = A ∨ ∀ p, A' = some p → w.heap.size ≤ p.block) := by
  by_cases hbad : Bad n a b
  · have e0 : sendE n room Ls a b = 1 := by unfold sendE; rw [if_pos hbad]
    unfold sentM
    rw [e0, if_neg (by decide)]
    exact (rsend_bad h v hbad).mono fun e w' ⟨he, o⟩ => ⟨he, A, c, h.keep o, o.mono (fun _ h => by simp at h), .inl rfl⟩
  · refine (rsend_good h v hbad hl hB).mono ?_
    rintro e w' (⟨h1, he, o⟩ | ⟨h1, he, A', c', hR, o, hf⟩)
    · have e0 : sendE n room Ls a b = 14 := by unfold sendE; rw [if_neg hbad, if_pos (by omega)]
      unfold sentM
      rw [e0, if_neg (by decide)]
      exact ⟨he, A, c, h.keep o, o.mono (fun _ h => by simp at h), .inl rfl⟩
    · have e0 : sendE n room Ls a b = 0 := by unfold sendE; rw [if_neg hbad, if_neg (by omega)]
      unfold sentM
      rw [e0, if_pos rfl]
      exact ⟨he, A', c', hR, o, .inr hf⟩
theorem rtake_all {B : Nat} {w : World} {mb n room : Nat} {m : List It} {A : Option Addr} {c : Nat} (h : RN B w mb n room m A c) {Ls : List (Pr × Lane)} (hn : (Ls.map (·.1)).Nodup) (hr : Rel Ls m) (a b : Int) (hl : m.length ≤ 1000000) (hB : B ≤ w.heap.size) :
    Calls Try.prog 14 #[.pointer (some ⟨mb, 0, none⟩), .int .i64 a, .int .i64 b] w fun e w' => e = .returned (.tuple #[.int .i64 (hdI (laneX Ls (a, b))), .bool (anyI (laneX Ls (a, b)))]) ∧ ∃ m' A' c', RN B w' mb n room m' A' c' ∧ Rel (tailX Ls (a, b)) m' ∧ m'.length ≤ m.length ∧ Only [mb] w w' ∧ (A' = A ∨ ∀ p, A' = some p → w.heap.size ≤ p.block) := by
  refine (rtake_any h a b hl hB).mono ?_
  rintro e w' (⟨h1, he, o⟩ | ⟨i, v, hi, hno, he, A', c', hR, o, hf⟩)
  · obtain ⟨e1, e2, r⟩ := hr.took_none hn h1
    rw [e1, e2]
    exact ⟨he, m, A, c, h.keep o, r, Nat.le_refl _, o.mono (fun _ h => by simp at h), .inl rfl⟩
  · obtain ⟨e1, e2, r⟩ := hr.took hn hi hno
    rw [e1, e2]
    have hil : i < m.length := (List.getElem?_eq_some_iff.1 hi).1
    exact ⟨he, _, A', c', hR, r, by rw [List.length_append, List.length_take, List.length_drop]; omega, o, .inr hf⟩
/-- the blocks of the document's net -/
def rnS (mb : Nat) (A : Option Addr) : List Nat := mb :: (A.map (·.block)).toList
theorem RN.below {B : Nat} {w : World} {mb n room : Nat} {m : List It} {A : Option Addr} {c : Nat} (h : RN B w mb n room m A c) : ∀ x ∈ rnS mb A, x < w.heap.size := fun x hx => by
  rcases List.mem_cons.1 hx with rfl | hx
  · exact h.blk.lt
  · cases A with
    | none => simp at hx
    | some p =>
      simp at hx
      subst hx
      exact (h.own.lt p.block rfl).2
theorem RN.off {B : Nat} {S : List Nat} {w w' : World} {mb n room : Nat} {m : List It} {A : Option Addr} {c : Nat} (h : RN B w mb n room m A c) (o : Only S w w') (h1 : ∀ x ∈ rnS mb A, x ∉ S) : RN B w' mb n room m A c :=
  h.only o (h1 mb (by simp [rnS])) (fun b hb => h1 b (by
    cases A with
    | none => simp [Value.ownBlock] at hb
    | some p =>
      simp [Value.ownBlock] at hb
      simp [rnS, hb]))
/-- the program's net, the document's, and the call that is looked at -/
structure TA (w0 w : World) (g bm n room : Nat) (Ls : List (Pr × Lane)) (mb : Nat) (A : Option Addr) (c : Nat) (m : List It) (xb : Nat) (cs : Array Value) : Prop where
  nb : NB w0.heap.size w g bm n room Ls
  rn : RN w0.heap.size w mb n room m A c
  act : Blk w xb 32 cs
  off : Off w g bm Ls (xb :: rnS mb A)
  xo : xb ∉ rnS mb A
  o : Only [] w0 w
theorem TA.keep {w0 w w' : World} {g bm n room : Nat} {Ls : List (Pr × Lane)} {mb : Nat} {A : Option Addr} {c : Nat} {m : List It} {xb : Nat} {cs : Array Value} (h : TA w0 w g bm n room Ls mb A c m xb cs) (o : Only [] w w') : TA w0 w' g bm n room Ls mb A c m xb cs :=
  ⟨h.nb.keep o, h.rn.keep o, o.blk h.act (by simp), h.off.next o.size (fun _ h => .inl h), h.xo, h.o.trans o (by simp)⟩
theorem TA.net {w0 w w' : World} {g bm n room : Nat} {Ls Ls' : List (Pr × Lane)} {mb : Nat} {A : Option Addr} {c : Nat} {m : List It} {xb : Nat} {cs : Array Value} (h : TA w0 w g bm n room Ls mb A c m xb cs) (hn : NB w0.heap.size w' g bm n room Ls') (o : Only (netS bm Ls) w w') (hf : ∀ x ∈ netS bm Ls', x ∈ netS bm Ls ∨ w.heap.size ≤ x) : TA w0 w' g bm n room Ls' mb A c m xb cs :=
  ⟨hn, h.rn.off o (fun x hx hm => (h.off x (List.mem_cons_of_mem _ hx)).2 (List.mem_cons_of_mem _ hm)), o.blk h.act (fun hm => (h.off xb (by simp)).2 (List.mem_cons_of_mem _ hm)), h.off.next o.size hf, h.xo, h.o.trans o (h.nb.fresh (Nat.le_refl _))⟩
theorem TA.doc {w0 w w' : World} {g bm n room : Nat} {Ls : List (Pr × Lane)} {mb : Nat} {A A' : Option Addr} {c c' : Nat} {m m' : List It} {xb : Nat} {cs : Array Value} (h : TA w0 w g bm n room Ls mb A c m xb cs) (hr : RN w0.heap.size w' mb n room m' A' c') (o : Only [mb] w w') (hf : A' = A ∨ ∀ p, A' = some p → w.heap.size ≤ p.block) : TA w0 w' g bm n room Ls mb A' c' m' xb cs := by
  have hmn := (h.off mb (by simp [rnS])).2
  have hxm : xb ≠ mb := fun e => h.xo (by simp [rnS, e])
  refine ⟨h.nb.only o (fun x hx hm => hmn (by simp at hm; rw [← hm]; exact hx)), hr, o.blk h.act (by simp; exact hxm), ?_, ?_, h.o.trans o (fun x hx => by simp at hx; subst hx; exact .inr h.rn.base)⟩
  · intro x hx
    have hz := o.size
    have old : x ∈ xb :: rnS mb A → x < w'.heap.size ∧ x ∉ g :: netS bm Ls := fun hx => by
      obtain ⟨h1, h2⟩ := h.off x hx
      exact ⟨by omega, h2⟩
    rcases hf with rfl | hf
    · exact old hx
    · rcases List.mem_cons.1 hx with rfl | hx
      · exact old (by simp)
      · refine ⟨hr.below x hx, ?_⟩
        rcases List.mem_cons.1 hx with rfl | hx
        · exact hmn
        · cases A' with
          | none => simp at hx
          | some p =>
            simp at hx
            subst hx
            intro hm
            have := h.nb.below _ hm
            have := hf p rfl
            omega
  · rcases hf with rfl | hf
    · exact h.xo
    · intro hx
      rcases List.mem_cons.1 hx with e | hx
      · exact hxm e
      · cases A' with
        | none => simp at hx
        | some p =>
          simp at hx
          have := h.act.lt
          have := hf p rfl
          omega
theorem TA.cnt {w0 w : World} {g bm n room : Nat} {Ls : List (Pr × Lane)} {mb : Nat} {A : Option Addr} {c : Nat} {m : List It} {xb : Nat} {cs : Array Value} (_ : TA w0 w g bm n room Ls mb A c m xb cs) (hr : Rel Ls m) (p : Pr) : (laneX Ls p).length = cntM m p := by
  rw [hr.at_, onL_length]
theorem send_ta {w0 w : World} {g bm n room : Nat} {Ls : List (Pr × Lane)} {mb : Nat} {A : Option Addr} {c : Nat} {m : List It} {xb : Nat} {cs : Array Value} (h : TA w0 w g bm n room Ls mb A c m xb cs) {a b : Int} (v : Int) (ha : I64 a) (hb : I64 b) (hlen : Ls.length ≤ 1048576) :
    Calls Try.prog 10 #[.pointer (some ⟨g, 0, none⟩), .int .i64 a, .int .i64 b, .int .i64 v] w fun e w' => e = .returned (.int .i64 (sendE n room Ls a b)) ∧ ∃ Ls', TA w0 w' g bm n room Ls' mb A c m xb cs ∧ Ls'.length ≤ Ls.length + 1 ∧ (∀ M, Rel Ls M → Rel Ls' (sentM n room Ls M a b v)) := by
  refine (send_any h.nb h.o.size v ha hb hlen).mono ?_
  rintro e w' ⟨he, Ls', hN, h0, h1, o, hf⟩
  refine ⟨he, Ls', h.net hN o hf, ?_, fun M hr => ?_⟩
  · by_cases e0 : sendE n room Ls a b = 0
    · exact (h0 e0).len
    · rw [h1 e0]; omega
  · unfold sentM
    by_cases e0 : sendE n room Ls a b = 0
    · rw [if_pos e0]; exact hr.sent (h0 e0)
    · rw [if_neg e0, h1 e0]; exact hr
theorem rsend_ta {w0 w : World} {g bm n room : Nat} {Ls Lq : List (Pr × Lane)} {mb : Nat} {A : Option Addr} {c : Nat} {m : List It} {xb : Nat} {cs : Array Value} (h : TA w0 w g bm n room Ls mb A c m xb cs) {a b : Int} (v : Int) (hc : (laneX Lq (a, b)).length = cntM m (a, b)) (hl : m.length ≤ 1000000) :
    Calls Try.prog 13 #[.pointer (some ⟨mb, 0, none⟩), .int .i64 a, .int .i64 b, .int .i64 v] w fun e w' => e = .returned (.int .i64 (sendE n room Lq a b)) ∧ ∃ A' c', TA w0 w' g bm n room Ls mb A' c' (sentM n room Lq m a b v) xb cs :=
  (rsend_all h.rn v hc hl h.o.size).mono fun _ _ ⟨he, A', c', hR, o, hf⟩ => ⟨he, A', c', h.doc hR o hf⟩
theorem take_ta {w0 w : World} {g bm n room : Nat} {Ls : List (Pr × Lane)} {mb : Nat} {A : Option Addr} {c : Nat} {m : List It} {xb : Nat} {cs : Array Value} (h : TA w0 w g bm n room Ls mb A c m xb cs) {a b : Int} (ha : I64 a) (hb : I64 b) :
    Calls Try.prog 11 #[.pointer (some ⟨g, 0, none⟩), .int .i64 a, .int .i64 b] w fun e w' => e = .returned (.tuple #[.int .i64 (hdI (laneX Ls (a, b))), .bool (anyI (laneX Ls (a, b)))]) ∧ TA w0 w' g bm n room (tailX Ls (a, b)) mb A c m xb cs :=
  (take_any h.nb h.o.size ha hb).mono fun _ _ ⟨he, hN, o⟩ => ⟨he, h.net hN o (fun x hx => .inl (tailX_bs x hx))⟩
theorem rtake_ta {w0 w : World} {g bm n room : Nat} {Ls Lq : List (Pr × Lane)} {mb : Nat} {A : Option Addr} {c : Nat} {m : List It} {xb : Nat} {cs : Array Value} (h : TA w0 w g bm n room Ls mb A c m xb cs) (hn : (Lq.map (·.1)).Nodup) (hr : Rel Lq m) (a b : Int) (hl : m.length ≤ 1000000) :
    Calls Try.prog 14 #[.pointer (some ⟨mb, 0, none⟩), .int .i64 a, .int .i64 b] w fun e w' => e = .returned (.tuple #[.int .i64 (hdI (laneX Lq (a, b))), .bool (anyI (laneX Lq (a, b)))]) ∧ ∃ m' A' c', TA w0 w' g bm n room Ls mb A' c' m' xb cs ∧ Rel (tailX Lq (a, b)) m' ∧ m'.length ≤ m.length :=
  (rtake_all h.rn hn hr a b hl h.o.size).mono fun _ _ ⟨he, m', A', c', hR, r, hl', o, hf⟩ => ⟨he, m', A', c', h.doc hR o hf, r, hl'⟩
/-- the same with a copy beside -/
structure TC (w0 w : World) (g bm n room : Nat) (Ls : List (Pr × Lane)) (mb : Nat) (A : Option Addr) (c : Nat) (m : List It) (xb : Nat) (cs : Array Value) (cg cm : Nat) (Cs : List (Pr × Lane)) : Prop where
  ta : TA w0 w g bm n room Ls mb A c m xb cs
  cp : NB w0.heap.size w cg cm n room Cs
  out : Off w g bm Ls (cg :: netS cm Cs)
  off : Off w cg cm Cs (xb :: rnS mb A)
theorem TC.net {w0 w w' : World} {g bm n room : Nat} {Ls Ls' : List (Pr × Lane)} {mb : Nat} {A : Option Addr} {c : Nat} {m : List It} {xb : Nat} {cs : Array Value} {cg cm : Nat} {Cs : List (Pr × Lane)} (h : TC w0 w g bm n room Ls mb A c m xb cs cg cm Cs) (hn : NB w0.heap.size w' g bm n room Ls') (o : Only (netS bm Ls) w w') (hf : ∀ x ∈ netS bm Ls', x ∈ netS bm Ls ∨ w.heap.size ≤ x) : TC w0 w' g bm n room Ls' mb A c m xb cs cg cm Cs :=
  ⟨h.ta.net hn o hf, h.cp.only o (fun x hx hm => (h.out x hx).2 (List.mem_cons_of_mem _ hm)), h.out.next o.size hf, h.off.next o.size (fun _ h => .inl h)⟩
theorem TC.swap {w0 w : World} {g bm n room : Nat} {Ls : List (Pr × Lane)} {mb : Nat} {A : Option Addr} {c : Nat} {m : List It} {xb : Nat} {cs : Array Value} {cg cm : Nat} {Cs : List (Pr × Lane)} (h : TC w0 w g bm n room Ls mb A c m xb cs cg cm Cs) : TA w0 w cg cm n room Cs mb A c m xb cs :=
  ⟨h.cp, h.ta.rn, h.ta.act, h.off, h.ta.xo, h.ta.o⟩
theorem copy_ta {w0 w : World} {g bm n room : Nat} {Ls : List (Pr × Lane)} {mb : Nat} {A : Option Addr} {c : Nat} {m : List It} {xb : Nat} {cs : Array Value} (h : TA w0 w g bm n room Ls mb A c m xb cs) (hlen : Ls.length ≤ 1048576) :
    Calls Try.prog 15 #[.pointer (some ⟨g, 0, none⟩)] w fun e w' => ∃ cg cm Cs, e = .returned (.pointer (some ⟨cg, 0, none⟩)) ∧ TC w0 w' g bm n room Ls mb A c m xb cs cg cm Cs ∧ Cs.length = Ls.length ∧ (∀ M, Rel Ls M → Rel Cs M) := by
  refine (copy_net h.nb hlen).mono ?_
  rintro e w' ⟨cg, cm, Cs, he, hN, hc, o⟩
  have hz := o.size
  refine ⟨cg, cm, Cs, he, ⟨h.keep o, hN.low h.o.size, fun x hx => ⟨hN.below x hx, fun hm => ?_⟩, fun x hx => ⟨?_, fun hm => ?_⟩⟩, by have := hc.len; simpa using this, fun M hr => hr.copy hc⟩
  · have := h.nb.below x hm
    have := hN.above x hx
    omega
  · have := (h.off x hx).1; omega
  · have := (h.off x hx).1
    have := hN.above x hm
    omega
theorem send_tc {w0 w : World} {g bm n room : Nat} {Ls : List (Pr × Lane)} {mb : Nat} {A : Option Addr} {c : Nat} {m : List It} {xb : Nat} {cs : Array Value} {cg cm : Nat} {Cs : List (Pr × Lane)} (h : TC w0 w g bm n room Ls mb A c m xb cs cg cm Cs) {a b : Int} (v : Int) (ha : I64 a) (hb : I64 b) (hlen : Ls.length ≤ 1048576) :
    Calls Try.prog 10 #[.pointer (some ⟨g, 0, none⟩), .int .i64 a, .int .i64 b, .int .i64 v] w fun e w' => e = .returned (.int .i64 (sendE n room Ls a b)) ∧ ∃ Ls', TC w0 w' g bm n room Ls' mb A c m xb cs cg cm Cs := by
  refine (send_any h.ta.nb h.ta.o.size v ha hb hlen).mono ?_
  rintro e w' ⟨he, Ls', hN, h0, h1, o, hf⟩
  exact ⟨he, Ls', h.net hN o hf⟩
theorem take_tc {w0 w : World} {g bm n room : Nat} {Ls : List (Pr × Lane)} {mb : Nat} {A : Option Addr} {c : Nat} {m : List It} {xb : Nat} {cs : Array Value} {cg cm : Nat} {Cs : List (Pr × Lane)} (h : TC w0 w g bm n room Ls mb A c m xb cs cg cm Cs) {a b : Int} (ha : I64 a) (hb : I64 b) :
    Calls Try.prog 11 #[.pointer (some ⟨g, 0, none⟩), .int .i64 a, .int .i64 b] w fun e w' => ∃ r1 r2, e = .returned (.tuple #[.int .i64 r1, .bool r2]) ∧ TC w0 w' g bm n room (tailX Ls (a, b)) mb A c m xb cs cg cm Cs :=
  (take_any h.ta.nb h.ta.o.size ha hb).mono fun _ _ ⟨he, hN, o⟩ => ⟨_, _, he, h.net hN o (fun x hx => .inl (tailX_bs x hx))⟩
theorem len_ta {w0 w : World} {g bm n room : Nat} {Ls : List (Pr × Lane)} {mb : Nat} {A : Option Addr} {c : Nat} {m : List It} {xb : Nat} {cs : Array Value} (h : TA w0 w g bm n room Ls mb A c m xb cs) (hr : Rel Ls m) (hl : m.length ≤ 1000000) :
    Calls Try.prog 12 #[.pointer (some ⟨g, 0, none⟩)] w fun e w' => e = .returned (.int .i64 m.length) ∧ TA w0 w' g bm n room Ls mb A c m xb cs := by
  have := len_net h.nb (by rw [hr.tot]; omega)
  rw [hr.tot] at this
  exact this.mono fun _ _ ⟨he, o⟩ => ⟨he, h.keep o⟩
end Go.Proofs.Ytlhmhpopppfpkaa
