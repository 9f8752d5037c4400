/- HeapAll: what lies in boxes. -/
import Derived.Test.YtodiemichniehaaWhile
import Derived.Test.YtodiemichniehaaDone
namespace Go.Proofs.Ytodiemichniehaa
open Go.RowKit Go.Kx Go.Maps
set_option maxRecDepth 100000

theorem own_le {w : World} {base sz n c : Nat} {A : Option Addr} {t : TypeId} {xs : List Value} (h : w.ownsRow base t sz (.slice A n c) n xs) : n ≤ c := by
  rcases h.2 with ⟨h1, h2⟩ | ⟨g, cap, cur, h1, _, _, h3, _⟩
  · omega
  · injection h1 with _ _ h1
    omega
theorem setM_le (m : List Ent) (x : Ent) : (setM m x).length ≤ m.length + 1 := by
  unfold setM
  rw [insM_length]
  have := delM_le m x.1
  omega
theorem heap_old {B : Nat} {w : World} {g bm : Nat} {L : List Ent} {A : Option Addr} {c : Nat} (hH : HB B w g (some bm) L A c) : ∀ x ∈ heapS g A (some bm), x < w.heap.size := fun x hx => by
  have g1 := hH.blk.lt
  have b1 := (hH.map bm rfl).lt
  simp at hx
  rcases hx with h | ⟨p, hp, h⟩ | h
  · omega
  · have := (hH.own.lt p.block (by rw [hp]; rfl)).2
    omega
  · omega
/-- a block of another type is none of the heap's -/
theorem HB.noS {B : Nat} {w : World} {g : Nat} {M : Option Nat} {L : List Ent} {A : Option Addr} {c : Nat} (hH : HB B w g M L A c) {b : Nat} {t : TypeId} {cs : Array Value} (hb : Blk w b t cs) (h1 : t ≠ 63) (h2 : t ≠ 40) : b ∉ heapS g A M := fun hm => by
  simp at hm
  rcases hm with h | ⟨p, hp, h⟩ | h
  · subst h; exact Blk.ne_ hb hH.blk h1 rfl
  · exact owns_ne hH.own hb (Ne.symm h2) (by rw [hp, ← h]; rfl)
  · exact (hH.map b h).ne hb rfl
structure AB (w wr : World) (mb sb rb : Nat) (z : Int) (Am : Option Addr) (cm : Nat) (mm : List Ent) : Prop where
  mbk : Blk wr mb 27 #[.slice Am mm.length cm]
  sbk : Blk wr sb 5 #[.int .u8 z]
  rbk : Blk wr rb 4 #[.bool false]
  row : Row2 wr w.heap.size Am mm
  o : Only [] w wr
  cap : mm.length ≤ cm
theorem AB.keep {w wr wr' : World} {mb sb rb : Nat} {z : Int} {Am : Option Addr} {cm : Nat} {mm : List Ent} (h : AB w wr mb sb rb z Am cm mm) (o : Only [] wr wr') : AB w wr' mb sb rb z Am cm mm :=
  ⟨o.blk h.mbk (by simp), o.blk h.sbk (by simp), o.blk h.rbk (by simp), h.row.keep o, h.o.trans o (by simp), h.cap⟩
theorem AB.heap {w wr wr' : World} {mb sb rb : Nat} {z : Int} {Am : Option Addr} {cm : Nat} {mm : List Ent} {B g bm : Nat} {L : List Ent} {A : Option Addr} {c : Nat} (h : AB w wr mb sb rb z Am cm mm) (hH : HB B wr g (some bm) L A c) (o : Only (heapS g A (some bm)) wr wr')
    (f : ∀ x ∈ heapS g A (some bm), x ∈ ([] : List Nat) ∨ w.heap.size ≤ x) : AB w wr' mb sb rb z Am cm mm :=
  ⟨o.blk h.mbk (hH.noS h.mbk (by decide) (by decide)), o.blk h.sbk (hH.noS h.sbk (by decide) (by decide)), o.blk h.rbk (hH.noS h.rbk (by decide) (by decide)), hH.row2 h.row o, h.o.trans o f, h.cap⟩
theorem AB.only {w wr wr' : World} {mb sb rb : Nat} {z : Int} {Am : Option Addr} {cm : Nat} {mm : List Ent} (h : AB w wr mb sb rb z Am cm mm) {nb : Nat} {v : Value} (hn : Blk wr nb 3 #[v]) (o : Only [nb] wr wr') (hw : w.heap.size ≤ nb) : AB w wr' mb sb rb z Am cm mm :=
  ⟨o.blk h.mbk (by simp; exact Blk.ne_ h.mbk hn (by decide)), o.blk h.sbk (by simp; exact Blk.ne_ h.sbk hn (by decide)), o.blk h.rbk (by simp; exact Blk.ne_ h.rbk hn (by decide)),
    h.row.only o (fun b cs hb => by simp; exact Blk.ne_ hb hn (by decide)), h.o.trans o (fun x hx => .inr (by simp at hx; omega)), h.cap⟩
theorem AB.store {w wr : World} {mb sb rb : Nat} {z : Int} {Am : Option Addr} {cm : Nat} {mm : List Ent} (h : AB w wr mb sb rb z Am cm mm) {Am' : Option Addr} {cm' : Nat} {mm' : List Ent} (hr : Row2 wr w.heap.size Am' mm') (hc : mm'.length ≤ cm') (hw : w.heap.size ≤ mb) :
    AB w (wr.setCell ⟨mb, 0, none⟩ (.slice Am' mm'.length cm')) mb sb rb z Am' cm' mm' := by
  have o : Only [mb] wr (wr.setCell ⟨mb, 0, none⟩ (.slice Am' mm'.length cm')) := only_setCell wr ⟨mb, 0, none⟩ _
  exact ⟨h.mbk.set_ 0 _, o.blk h.sbk (by simp; exact Blk.ne_ h.sbk h.mbk (by decide)), o.blk h.rbk (by simp; exact Blk.ne_ h.rbk h.mbk (by decide)), hr.only o (fun b cs hb => by simp; exact Blk.ne_ hb h.mbk (by decide)), h.o.trans o (fun x hx => .inr (by simp at hx; omega)), hc⟩
theorem HB.stored {B : Nat} {wr : World} {g : Nat} {M : Option Nat} {L : List Ent} {A : Option Addr} {c : Nat} (hH : HB B wr g M L A c) {b : Nat} {t : TypeId} {cs : Array Value} (hb : Blk wr b t cs) (h1 : t ≠ 63) (h2 : t ≠ 40) (v : Value) : HB B (wr.setCell ⟨b, 0, none⟩ v) g M L A c :=
  hH.only (only_setCell wr ⟨b, 0, none⟩ v) (fun x hx hm => by simp at hm; subst hm; exact hH.noS hb h1 h2 hx)
theorem eq_33 (a b c d : Int) (W : World) : (binOp .neq 33 (.agg #[.int .i64 a, .int .i64 b]) (.agg #[.int .i64 c, .int .i64 d])).run Try.prog W = .ok (.bool (!decide (a = c ∧ b = d))) W := by
  by_cases h : a = c <;> by_cases h2 : b = d <;> simp [go_sem, h, h2]
theorem neq_33T (a b : Int) (W : World) : (binOp .neq 33 (.agg #[.int .i64 a, .int .i64 b]) (.agg #[.int .i64 a, .int .i64 b])).run Try.prog W = .ok (.bool false) W := by
  rw [eq_33, decide_eq_true ⟨rfl, rfl⟩]; rfl
theorem tw_at : ∀ {m : List Ent} {k : Nat} {e : Ent}, (tw m)[k]? = some e → m[k]? = some e
  | [], k, e, h => by simp [tw] at h
  | a :: m, k, e, h => by
    by_cases ha : lowE a = true
    · have e1 : tw (a :: m) = a :: tw m := by unfold tw; rw [List.takeWhile_cons_of_pos ha]
      rw [e1] at h
      cases k with
      | zero => simpa using h
      | succ k => simpa using tw_at (m := m) (k := k) (by simpa using h)
    · have e1 : tw (a :: m) = [] := by unfold tw; rw [List.takeWhile_cons_of_neg ha]
      rw [e1] at h
      simp at h
end Go.Proofs.Ytodiemichniehaa
