/- Values and types made anew: each, Copy, TypeOf. -/
import Derived.Test.YtgpljjejfebhoaaDoorRight
namespace Go.Proofs.YtgpljjejfebhoaaDoor
open Go.RowKit Go.Kx Go.Val
set_option maxRecDepth 100000
theorem _root_.Go.Kx.Blk.cellsAt {w : World} {g : Nat} {t : TypeId} {cs : Array Value} (h : Blk w g t cs) (j : Nat) (hj : j < cs.size) : ∃ v, w.cell? ⟨g, j, none⟩ = some v := by
  have := h.cell j
  rw [Array.getElem?_eq_getElem hj] at this
  exact ⟨_, this⟩
/-- the blocks where it lies -/
def Vx.blks : Vx → List Nat
  | .mk _ _ _ A _ l => A.toList.map (·.block) ++ (l.map Vx.blks).flatten
theorem blks_AV (fk fn : Int) (fs : ByteArray) {A : Option Addr} {cap : Nat} {l : List Vx} {p : Addr} (h : A = some p) : p.block ∈ (Vx.mk fk fn fs A cap l).blks := by
  subst h; rw [Vx.blks]; simp
theorem blks_subV (fk fn : Int) (fs : ByteArray) {A : Option Addr} {cap : Nat} {l : List Vx} {a : Vx} (h : a ∈ l) {b : Nat} (hb : b ∈ a.blks) : b ∈ (Vx.mk fk fn fs A cap l).blks := by
  rw [Vx.blks, List.mem_append]
  exact .inr (List.mem_flatten.2 ⟨_, List.mem_map.2 ⟨a, h, rfl⟩, hb⟩)
theorem LiesV.only {T : List Nat} {w w' : World} {e : Vx} (h : LiesV w e) (o : Only T w w') (hT : ∀ b ∈ e.blks, b ∉ T) : LiesV w' e := by
  induction h with
  | mk h1 h5 h6 h7 ih =>
    exact .mk h1 h5 (fun i e he => (h6 i e he).only o (fun p hp => hT _ (blks_AV _ _ _ hp))) (fun e he => ih e he (fun b hb => hT b (blks_subV _ _ _ he hb)))
/-- one made anew, in blocks from B on -/
structure CpV (B : Nat) (w : World) (t : Vt) (e' : Vx) : Prop where
  tr : e'.tr = t
  lies : LiesV w e'
  off : ∀ b ∈ e'.blks, B ≤ b
  top : ∀ b ∈ e'.blks, b < w.heap.size
theorem CpV.keep {B : Nat} {w w' : World} {t : Vt} {e' : Vx} (h : CpV B w t e') (o : Only [] w w') : CpV B w' t e' := ⟨h.tr, h.lies.keep o, h.off, fun b hb => Nat.lt_of_lt_of_le (h.top b hb) o.size⟩
theorem CpV.only {B : Nat} {T : List Nat} {w w' : World} {t : Vt} {e' : Vx} (h : CpV B w t e') (o : Only T w w') (hT : ∀ x ∈ T, x < B) : CpV B w' t e' :=
  ⟨h.tr, h.lies.only o (fun b hb hm => by have := hT _ hm; have := h.off b hb; omega), h.off, fun b hb => Nat.lt_of_lt_of_le (h.top b hb) o.size⟩
theorem CpV.low {B B' : Nat} {w : World} {t : Vt} {e' : Vx} (h : CpV B w t e') (hB : B' ≤ B) : CpV B' w t e' := ⟨h.tr, h.lies, fun b hb => Nat.le_trans hB (h.off b hb), h.top⟩
/-- a row made anew -/
structure MadeV (B : Nat) (w : World) (ts : List Vt) (A : Option Addr) (es : List Vx) : Prop where
  tr : es.map Vx.tr = ts
  row : RowLV w A es
  at_ : ∀ p, A = some p → B ≤ p.block ∧ p.block < w.heap.size
  sub : ∀ e ∈ es, ∀ b ∈ e.blks, B ≤ b ∧ b < w.heap.size
theorem MadeV.keep {B : Nat} {w w' : World} {ts : List Vt} {A : Option Addr} {es : List Vx} (h : MadeV B w ts A es) (o : Only [] w w') : MadeV B w' ts A es :=
  ⟨h.tr, h.row.keep o, fun p hp => ⟨(h.at_ p hp).1, Nat.lt_of_lt_of_le (h.at_ p hp).2 o.size⟩, fun e he b hb => ⟨(h.sub e he b hb).1, Nat.lt_of_lt_of_le (h.sub e he b hb).2 o.size⟩⟩
theorem MadeV.low {B B' : Nat} {w : World} {ts : List Vt} {A : Option Addr} {es : List Vx} (h : MadeV B w ts A es) (hB : B' ≤ B) : MadeV B' w ts A es :=
  ⟨h.tr, h.row, fun p hp => ⟨Nat.le_trans hB (h.at_ p hp).1, (h.at_ p hp).2⟩, fun e he b hb => ⟨Nat.le_trans hB (h.sub e he b hb).1, (h.sub e he b hb).2⟩⟩
theorem MadeV.only {B : Nat} {T : List Nat} {w w' : World} {ts : List Vt} {A : Option Addr} {es : List Vx} (h : MadeV B w ts A es) (o : Only T w w') (hT : ∀ x ∈ T, x < B) : MadeV B w' ts A es :=
  ⟨h.tr, ⟨fun i e he => (h.row.row i e he).only o (fun p hp hm => by have := hT _ hm; have := (h.at_ p hp).1; omega), fun e he => (h.row.sub e he).only o (fun b hb hm => by have := hT _ hm; have := (h.sub e he b hb).1; omega), h.row.len⟩,
    fun p hp => ⟨(h.at_ p hp).1, Nat.lt_of_lt_of_le (h.at_ p hp).2 o.size⟩, fun e he b hb => ⟨(h.sub e he b hb).1, Nat.lt_of_lt_of_le (h.sub e he b hb).2 o.size⟩⟩
theorem MadeV.cp {B : Nat} {w : World} {ts : List Vt} {A : Option Addr} {es : List Vx} {fk fn : Int} {fs : ByteArray} (hi : I64 fk ∧ I64 fn ∧ fs.size ≤ 9223372036854775807) (cap : Nat) (h : MadeV B w ts A es) : CpV B w (.mk fk fn fs.toList ts) (.mk fk fn fs A cap es) := by
  refine ⟨?_, .mk hi h.row.len h.row.row h.row.sub, fun b hb => ?_, fun b hb => ?_⟩
  · rw [Vx.tr_mk, h.tr]
  all_goals
    rw [Vx.blks, List.mem_append] at hb
    rcases hb with hb | hb
    · obtain ⟨p, hp, rfl⟩ := List.mem_map.1 hb
      first | exact (h.at_ p (by simpa using hp)).1 | exact (h.at_ p (by simpa using hp)).2
    · obtain ⟨l, hl, hbl⟩ := List.mem_flatten.1 hb
      obtain ⟨e', he', rfl⟩ := List.mem_map.1 hl
      first | exact (h.sub e' he' b hbl).1 | exact (h.sub e' he' b hbl).2
def zV : Value := .agg #[.int .i64 0, .int .i64 0, .string ⟨#[]⟩, .slice none 0 0]
theorem infoV : ((Tryd.prog.info? 34).map fun i => (i.zero, i.size, i.bytes)) = some (some zV, 4, 56) := by kernel_rfl
theorem run_makeV (n : Nat) (hn : n ≤ 1048576) :
    ∃ cs : Array Value, cs.size = n * 4 ∧ ∀ w, (Instr.makeSlice 32 (.int .i64 (n : Int)) (.int .i64 (n : Int))).run Tryd.prog w = .ok (.slice (some ⟨w.heap.size, 0, none⟩) n n) (w.alloc (.cells cs 34)) := by
  obtain ⟨i, hi, h0, h1, h2⟩ := info_parts infoV
  have := run_make_rowN 32 34 i zV Tryd.underlying32 hi h0 .i64 .i64 n n (Nat.le_refl _) (by rw [h2]; omega) (by omega)
  refine ⟨_, ?_, this⟩
  rw [h1]
  simp [madeCells]
/-- the world where the cells of a place of a row are laid -/
def setRowV (w : World) (g k : Nat) (v0 v1 v2 v3 : Value) : World := ((((w.setCell ⟨g, k * 4, none⟩ v0).setCell ⟨g, k * 4 + 1, none⟩ v1).setCell ⟨g, k * 4 + 2, none⟩ v2).setCell ⟨g, k * 4 + 3, none⟩ v3)
theorem setRow_onlyV (w : World) (g k : Nat) (v0 v1 v2 v3 : Value) : Only [g] w (setRowV w g k v0 v1 v2 v3) := ((((Only.refl [g] w).setCell (.inl (by simp)) _).setCell (.inl (by simp)) _).setCell (.inl (by simp)) _).setCell (.inl (by simp)) _
theorem setRow_blkV {w : World} {g k : Nat} {cur : Array Value} (h : Blk w g 34 cur) (v0 v1 v2 v3 : Value) :
    Blk (setRowV w g k v0 v1 v2 v3) g 34 ((((cur.setIfInBounds (k * 4) v0).setIfInBounds (k * 4 + 1) v1).setIfInBounds (k * 4 + 2) v2).setIfInBounds (k * 4 + 3) v3) := ((((h.set_ _ _).set_ _ _).set_ _ _).set_ _ _)
theorem row_setV {w : World} {g k : Nat} {cur : Array Value} (h : Blk w g 34 cur) (hk : k * 4 + 4 ≤ cur.size) (fk fn : Int) (fs : ByteArray) (A : Option Addr) (cap : Nat) (l : List Vx) :
    RowAtV (setRowV w g k (.int .i64 fk) (.int .i64 fn) (.string fs) (.slice A l.length cap)) (some ⟨g, 0, none⟩) k (.mk fk fn fs A cap l) := by
  have hb := setRow_blkV (k := k) h (.int .i64 fk) (.int .i64 fn) (.string fs) (.slice A l.length cap)
  refine ⟨g, 0, rfl, hb.lt, fun j v hv => ?_⟩
  rw [Nat.zero_add]
  refine (hb.cell _).trans ?_
  match j, hv with
  | 0, hv => simp [Vx.cs] at hv; subst hv; simp [Array.getElem?_setIfInBounds]; omega
  | 1, hv => simp [Vx.cs] at hv; subst hv; simp [Array.getElem?_setIfInBounds]; omega
  | 2, hv => simp [Vx.cs] at hv; subst hv; simp [Array.getElem?_setIfInBounds]; omega
  | 3, hv => simp [Vx.cs] at hv; subst hv; simp [Array.getElem?_setIfInBounds]; omega
  | j + 4, hv => simp [Vx.cs] at hv
theorem row_oldV {w : World} {g k i : Nat} {cur : Array Value} (h : Blk w g 34 cur) (hi : i < k) (v0 v1 v2 v3 : Value) {x : Vx} (hx : RowAtV w (some ⟨g, 0, none⟩) i x) : RowAtV (setRowV w g k v0 v1 v2 v3) (some ⟨g, 0, none⟩) i x := by
  have hb := setRow_blkV (k := k) h v0 v1 v2 v3
  obtain ⟨b', o', hA, _, hc⟩ := hx
  injection hA with hA
  injection hA with h1 h2 _
  subst h1 h2
  refine ⟨g, 0, rfl, hb.lt, fun j v hv => ?_⟩
  have hj : j < 4 := by
    have := (List.getElem?_eq_some_iff.1 hv).1
    cases x
    simpa [Vx.cs] using this
  refine (hb.cell _).trans ?_
  have hw := (h.cell (0 + i * 4 + j)).symm.trans (hc j v hv)
  rw [Array.getElem?_setIfInBounds_ne (by omega), Array.getElem?_setIfInBounds_ne (by omega), Array.getElem?_setIfInBounds_ne (by omega), Array.getElem?_setIfInBounds_ne (by omega)]
  exact hw
/-- the first k places of a row are made -/
structure PartV {α : Type} (B : Nat) (w : World) (g : α → Vt) (l : List α) (b : Nat) (es : List Vx) : Prop where
  at_ : ∀ i e', es[i]? = some e' → ∃ a, l[i]? = some a ∧ CpV B w (g a) e' ∧ RowAtV w (some ⟨b, 0, none⟩) i e'
theorem PartV.step {α : Type} {B : Nat} {w w5 : World} {g : α → Vt} {l : List α} {b : Nat} {es : List Vx} {cur : Array Value} {a : α} {fk fn : Int} {fs : ByteArray} {A : Option Addr} {cap : Nat} {ys : List Vx}
    (h : PartV B w g l b es) (ha : l[es.length]? = some a) (hB : b < B) (o : Only [] w w5) (hq : Blk w5 b 34 cur) (hk : es.length * 4 + 4 ≤ cur.size) (hc : CpV B w5 (g a) (.mk fk fn fs A cap ys)) :
    PartV B (setRowV w5 b es.length (.int .i64 fk) (.int .i64 fn) (.string fs) (.slice A ys.length cap)) g l b (es ++ [.mk fk fn fs A cap ys]) := by
  have o6 := setRow_onlyV w5 b es.length (.int .i64 fk) (.int .i64 fn) (.string fs) (.slice A ys.length cap)
  have key : ∀ {t : Vt} {e' : Vx}, CpV B w5 t e' → CpV B (setRowV w5 b es.length (.int .i64 fk) (.int .i64 fn) (.string fs) (.slice A ys.length cap)) t e' := fun c => ⟨c.tr, c.lies.only o6 (fun x hx hm => by
    have := c.off x hx
    simp at hm
    omega), c.off, fun x hx => Nat.lt_of_lt_of_le (c.top x hx) o6.size⟩
  constructor
  intro i e' hi
  by_cases hik : i < es.length
  · rw [List.getElem?_append_left hik] at hi
    obtain ⟨x, hx, hcp, hra⟩ := h.at_ i e' hi
    exact ⟨x, hx, key (hcp.keep o), row_oldV hq hik _ _ _ _ (hra.only o (by simp))⟩
  · have hl := (List.getElem?_eq_some_iff.1 hi).1
    rw [List.length_append] at hl
    have hie : i = es.length := by simp at hl; omega
    subst hie
    rw [List.getElem?_append_right (Nat.le_refl _), Nat.sub_self] at hi
    simp at hi
    subst hi
    exact ⟨a, ha, key hc, row_setV hq hk _ _ _ A cap ys⟩
theorem PartV.done {α : Type} {B B' : Nat} {w : World} {g : α → Vt} {l : List α} {b : Nat} {es : List Vx} (h : PartV B w g l b es) (hl : es.length = l.length) (hb : B' ≤ b) (hB : b < B) (hw : b < w.heap.size) (hm : l.length ≤ 9223372036854775807) : MadeV B' w (l.map g) (some ⟨b, 0, none⟩) es := by
  refine ⟨?_, ⟨fun i e he => ?_, fun e he => ?_, by omega⟩, fun p hp => ?_, fun e he x hx => ?_⟩
  · refine List.ext_getElem? fun i => ?_
    rw [List.getElem?_map, List.getElem?_map]
    by_cases hi : i < es.length
    · obtain ⟨a, ha, hcp, -⟩ := h.at_ i _ (List.getElem?_eq_getElem hi)
      rw [List.getElem?_eq_getElem hi, ha]
      simp [hcp.tr]
    · rw [List.getElem?_eq_none (by omega), List.getElem?_eq_none (by omega)]
      rfl
  · obtain ⟨_, _, _, hr⟩ := h.at_ i e he
    exact hr
  · obtain ⟨i, hi⟩ := List.getElem?_of_mem he
    obtain ⟨_, _, hc, _⟩ := h.at_ i e hi
    exact hc.lies
  · injection hp with hp
    subst hp
    exact ⟨hb, hw⟩
  · obtain ⟨i, hi⟩ := List.getElem?_of_mem he
    obtain ⟨_, _, hc, _⟩ := h.at_ i e hi
    exact ⟨by have := hc.off x hx; omega, hc.top x hx⟩
/-- the blocks where it lies -/
def Tx.blks : Tx → List Nat
  | .mk _ A _ l => A.toList.map (·.block) ++ (l.map Tx.blks).flatten
theorem blks_AT (fk : Int) {A : Option Addr} {cap : Nat} {l : List Tx} {p : Addr} (h : A = some p) : p.block ∈ (Tx.mk fk A cap l).blks := by
  subst h; rw [Tx.blks]; simp
theorem blks_subT (fk : Int) {A : Option Addr} {cap : Nat} {l : List Tx} {a : Tx} (h : a ∈ l) {b : Nat} (hb : b ∈ a.blks) : b ∈ (Tx.mk fk A cap l).blks := by
  rw [Tx.blks, List.mem_append]
  exact .inr (List.mem_flatten.2 ⟨_, List.mem_map.2 ⟨a, h, rfl⟩, hb⟩)
theorem LiesT.only {T : List Nat} {w w' : World} {e : Tx} (h : LiesT w e) (o : Only T w w') (hT : ∀ b ∈ e.blks, b ∉ T) : LiesT w' e := by
  induction h with
  | mk h1 h5 h6 h7 ih =>
    exact .mk h1 h5 (fun i e he => (h6 i e he).only o (fun p hp => hT _ (blks_AT _ hp))) (fun e he => ih e he (fun b hb => hT b (blks_subT _ he hb)))
/-- one made anew, in blocks from B on -/
structure CpT (B : Nat) (w : World) (t : Tt) (e' : Tx) : Prop where
  tr : e'.tr = t
  lies : LiesT w e'
  off : ∀ b ∈ e'.blks, B ≤ b
  top : ∀ b ∈ e'.blks, b < w.heap.size
theorem CpT.keep {B : Nat} {w w' : World} {t : Tt} {e' : Tx} (h : CpT B w t e') (o : Only [] w w') : CpT B w' t e' := ⟨h.tr, h.lies.keep o, h.off, fun b hb => Nat.lt_of_lt_of_le (h.top b hb) o.size⟩
theorem CpT.only {B : Nat} {T : List Nat} {w w' : World} {t : Tt} {e' : Tx} (h : CpT B w t e') (o : Only T w w') (hT : ∀ x ∈ T, x < B) : CpT B w' t e' :=
  ⟨h.tr, h.lies.only o (fun b hb hm => by have := hT _ hm; have := h.off b hb; omega), h.off, fun b hb => Nat.lt_of_lt_of_le (h.top b hb) o.size⟩
theorem CpT.low {B B' : Nat} {w : World} {t : Tt} {e' : Tx} (h : CpT B w t e') (hB : B' ≤ B) : CpT B' w t e' := ⟨h.tr, h.lies, fun b hb => Nat.le_trans hB (h.off b hb), h.top⟩
/-- a row made anew -/
structure MadeT (B : Nat) (w : World) (ts : List Tt) (A : Option Addr) (es : List Tx) : Prop where
  tr : es.map Tx.tr = ts
  row : RowLT w A es
  at_ : ∀ p, A = some p → B ≤ p.block ∧ p.block < w.heap.size
  sub : ∀ e ∈ es, ∀ b ∈ e.blks, B ≤ b ∧ b < w.heap.size
theorem MadeT.keep {B : Nat} {w w' : World} {ts : List Tt} {A : Option Addr} {es : List Tx} (h : MadeT B w ts A es) (o : Only [] w w') : MadeT B w' ts A es :=
  ⟨h.tr, h.row.keep o, fun p hp => ⟨(h.at_ p hp).1, Nat.lt_of_lt_of_le (h.at_ p hp).2 o.size⟩, fun e he b hb => ⟨(h.sub e he b hb).1, Nat.lt_of_lt_of_le (h.sub e he b hb).2 o.size⟩⟩
theorem MadeT.low {B B' : Nat} {w : World} {ts : List Tt} {A : Option Addr} {es : List Tx} (h : MadeT B w ts A es) (hB : B' ≤ B) : MadeT B' w ts A es :=
  ⟨h.tr, h.row, fun p hp => ⟨Nat.le_trans hB (h.at_ p hp).1, (h.at_ p hp).2⟩, fun e he b hb => ⟨Nat.le_trans hB (h.sub e he b hb).1, (h.sub e he b hb).2⟩⟩
theorem MadeT.only {B : Nat} {T : List Nat} {w w' : World} {ts : List Tt} {A : Option Addr} {es : List Tx} (h : MadeT B w ts A es) (o : Only T w w') (hT : ∀ x ∈ T, x < B) : MadeT B w' ts A es :=
  ⟨h.tr, ⟨fun i e he => (h.row.row i e he).only o (fun p hp hm => by have := hT _ hm; have := (h.at_ p hp).1; omega), fun e he => (h.row.sub e he).only o (fun b hb hm => by have := hT _ hm; have := (h.sub e he b hb).1; omega), h.row.len⟩,
    fun p hp => ⟨(h.at_ p hp).1, Nat.lt_of_lt_of_le (h.at_ p hp).2 o.size⟩, fun e he b hb => ⟨(h.sub e he b hb).1, Nat.lt_of_lt_of_le (h.sub e he b hb).2 o.size⟩⟩
theorem MadeT.cp {B : Nat} {w : World} {ts : List Tt} {A : Option Addr} {es : List Tx} {fk : Int} (hi : I64 fk) (cap : Nat) (h : MadeT B w ts A es) : CpT B w (.mk fk ts) (.mk fk A cap es) := by
  refine ⟨?_, .mk hi h.row.len h.row.row h.row.sub, fun b hb => ?_, fun b hb => ?_⟩
  · rw [Tx.tr_mk, h.tr]
  all_goals
    rw [Tx.blks, List.mem_append] at hb
    rcases hb with hb | hb
    · obtain ⟨p, hp, rfl⟩ := List.mem_map.1 hb
      first | exact (h.at_ p (by simpa using hp)).1 | exact (h.at_ p (by simpa using hp)).2
    · obtain ⟨l, hl, hbl⟩ := List.mem_flatten.1 hb
      obtain ⟨e', he', rfl⟩ := List.mem_map.1 hl
      first | exact (h.sub e' he' b hbl).1 | exact (h.sub e' he' b hbl).2
def zT : Value := .agg #[.int .i64 0, .slice none 0 0]
theorem infoT : ((Tryd.prog.info? 26).map fun i => (i.zero, i.size, i.bytes)) = some (some zT, 2, 32) := by kernel_rfl
theorem run_makeT (n : Nat) (hn : n ≤ 1048576) :
    ∃ cs : Array Value, cs.size = n * 2 ∧ ∀ w, (Instr.makeSlice 24 (.int .i64 (n : Int)) (.int .i64 (n : Int))).run Tryd.prog w = .ok (.slice (some ⟨w.heap.size, 0, none⟩) n n) (w.alloc (.cells cs 26)) := by
  obtain ⟨i, hi, h0, h1, h2⟩ := info_parts infoT
  have := run_make_rowN 24 26 i zT Tryd.underlying24 hi h0 .i64 .i64 n n (Nat.le_refl _) (by rw [h2]; omega) (by omega)
  refine ⟨_, ?_, this⟩
  rw [h1]
  simp [madeCells]
/-- the world where the cells of a place of a row are laid -/
def setRowT (w : World) (g k : Nat) (v0 v1 : Value) : World := ((w.setCell ⟨g, k * 2, none⟩ v0).setCell ⟨g, k * 2 + 1, none⟩ v1)
theorem setRow_onlyT (w : World) (g k : Nat) (v0 v1 : Value) : Only [g] w (setRowT w g k v0 v1) := ((Only.refl [g] w).setCell (.inl (by simp)) _).setCell (.inl (by simp)) _
theorem setRow_blkT {w : World} {g k : Nat} {cur : Array Value} (h : Blk w g 26 cur) (v0 v1 : Value) :
    Blk (setRowT w g k v0 v1) g 26 ((cur.setIfInBounds (k * 2) v0).setIfInBounds (k * 2 + 1) v1) := ((h.set_ _ _).set_ _ _)
theorem row_setT {w : World} {g k : Nat} {cur : Array Value} (h : Blk w g 26 cur) (hk : k * 2 + 2 ≤ cur.size) (fk : Int) (A : Option Addr) (cap : Nat) (l : List Tx) :
    RowAtT (setRowT w g k (.int .i64 fk) (.slice A l.length cap)) (some ⟨g, 0, none⟩) k (.mk fk A cap l) := by
  have hb := setRow_blkT (k := k) h (.int .i64 fk) (.slice A l.length cap)
  refine ⟨g, 0, rfl, hb.lt, fun j v hv => ?_⟩
  rw [Nat.zero_add]
  refine (hb.cell _).trans ?_
  match j, hv with
  | 0, hv => simp [Tx.cs] at hv; subst hv; simp [Array.getElem?_setIfInBounds]; omega
  | 1, hv => simp [Tx.cs] at hv; subst hv; simp [Array.getElem?_setIfInBounds]; omega
  | j + 2, hv => simp [Tx.cs] at hv
theorem row_oldT {w : World} {g k i : Nat} {cur : Array Value} (h : Blk w g 26 cur) (hi : i < k) (v0 v1 : Value) {x : Tx} (hx : RowAtT w (some ⟨g, 0, none⟩) i x) : RowAtT (setRowT w g k v0 v1) (some ⟨g, 0, none⟩) i x := by
  have hb := setRow_blkT (k := k) h v0 v1
  obtain ⟨b', o', hA, _, hc⟩ := hx
  injection hA with hA
  injection hA with h1 h2 _
  subst h1 h2
  refine ⟨g, 0, rfl, hb.lt, fun j v hv => ?_⟩
  have hj : j < 2 := by
    have := (List.getElem?_eq_some_iff.1 hv).1
    cases x
    simpa [Tx.cs] using this
  refine (hb.cell _).trans ?_
  have hw := (h.cell (0 + i * 2 + j)).symm.trans (hc j v hv)
  rw [Array.getElem?_setIfInBounds_ne (by omega), Array.getElem?_setIfInBounds_ne (by omega)]
  exact hw
/-- the first k places of a row are made -/
structure PartT {α : Type} (B : Nat) (w : World) (g : α → Tt) (l : List α) (b : Nat) (es : List Tx) : Prop where
  at_ : ∀ i e', es[i]? = some e' → ∃ a, l[i]? = some a ∧ CpT B w (g a) e' ∧ RowAtT w (some ⟨b, 0, none⟩) i e'
theorem PartT.step {α : Type} {B : Nat} {w w5 : World} {g : α → Tt} {l : List α} {b : Nat} {es : List Tx} {cur : Array Value} {a : α} {fk : Int} {A : Option Addr} {cap : Nat} {ys : List Tx}
    (h : PartT B w g l b es) (ha : l[es.length]? = some a) (hB : b < B) (o : Only [] w w5) (hq : Blk w5 b 26 cur) (hk : es.length * 2 + 2 ≤ cur.size) (hc : CpT B w5 (g a) (.mk fk A cap ys)) :
    PartT B (setRowT w5 b es.length (.int .i64 fk) (.slice A ys.length cap)) g l b (es ++ [.mk fk A cap ys]) := by
  have o6 := setRow_onlyT w5 b es.length (.int .i64 fk) (.slice A ys.length cap)
  have key : ∀ {t : Tt} {e' : Tx}, CpT B w5 t e' → CpT B (setRowT w5 b es.length (.int .i64 fk) (.slice A ys.length cap)) t e' := fun c => ⟨c.tr, c.lies.only o6 (fun x hx hm => by
    have := c.off x hx
    simp at hm
    omega), c.off, fun x hx => Nat.lt_of_lt_of_le (c.top x hx) o6.size⟩
  constructor
  intro i e' hi
  by_cases hik : i < es.length
  · rw [List.getElem?_append_left hik] at hi
    obtain ⟨x, hx, hcp, hra⟩ := h.at_ i e' hi
    exact ⟨x, hx, key (hcp.keep o), row_oldT hq hik _ _ (hra.only o (by simp))⟩
  · have hl := (List.getElem?_eq_some_iff.1 hi).1
    rw [List.length_append] at hl
    have hie : i = es.length := by simp at hl; omega
    subst hie
    rw [List.getElem?_append_right (Nat.le_refl _), Nat.sub_self] at hi
    simp at hi
    subst hi
    exact ⟨a, ha, key hc, row_setT hq hk _ A cap ys⟩
theorem PartT.done {α : Type} {B B' : Nat} {w : World} {g : α → Tt} {l : List α} {b : Nat} {es : List Tx} (h : PartT B w g l b es) (hl : es.length = l.length) (hb : B' ≤ b) (hB : b < B) (hw : b < w.heap.size) (hm : l.length ≤ 9223372036854775807) : MadeT B' w (l.map g) (some ⟨b, 0, none⟩) es := by
  refine ⟨?_, ⟨fun i e he => ?_, fun e he => ?_, by omega⟩, fun p hp => ?_, fun e he x hx => ?_⟩
  · refine List.ext_getElem? fun i => ?_
    rw [List.getElem?_map, List.getElem?_map]
    by_cases hi : i < es.length
    · obtain ⟨a, ha, hcp, -⟩ := h.at_ i _ (List.getElem?_eq_getElem hi)
      rw [List.getElem?_eq_getElem hi, ha]
      simp [hcp.tr]
    · rw [List.getElem?_eq_none (by omega), List.getElem?_eq_none (by omega)]
      rfl
  · obtain ⟨_, _, _, hr⟩ := h.at_ i e he
    exact hr
  · obtain ⟨i, hi⟩ := List.getElem?_of_mem he
    obtain ⟨_, _, hc, _⟩ := h.at_ i e hi
    exact hc.lies
  · injection hp with hp
    subst hp
    exact ⟨hb, hw⟩
  · obtain ⟨i, hi⟩ := List.getElem?_of_mem he
    obtain ⟨_, _, hc, _⟩ := h.at_ i e hi
    exact ⟨by have := hc.off x hx; omega, hc.top x hx⟩
set_option maxHeartbeats 4000000 in
theorem eachV (f : Nat) (g : Vx → Vt) (eg : ∀ args w, (callFunc f args).run Tryd.prog w = .ok (.enter f args) w) {A : Option Addr} {cap : Nat} {l : List Vx} {w : World} (hR : RowLV w A l) (hlen : l.length ≤ 1048576)
    (hf : ∀ a ∈ l, ∀ w', Only [] w w' → LiesV w' a → Calls Tryd.prog f #[a.val] w' fun r w'' => ∃ e', r = .returned (Vx.val e') ∧ CpV w'.heap.size w'' (g a) e' ∧ Only [] w' w'') :
    Calls Tryd.prog 39 #[.slice A l.length cap, .func (.func f) #[] #[]] w fun r w' => ∃ (A' : Option Addr) (cap' : Nat) (es : List Vx), r = .returned (.slice A' es.length cap') ∧ MadeV w.heap.size w' (l.map g) A' es ∧ Only [] w w' := by
  by_cases h0 : l.length = 0
  · have HE : l = [] := List.length_eq_zero_iff.1 h0
    subst HE
    clear hf hR hlen h0
    show Calls Tryd.prog 39 #[.slice A (0 : Nat) cap, .func (.func f) #[] #[]] w _
    go_enter Tryd.func39, Tryd.ntmps39
    go_wp2_with (fail)
    go_ret
    exact ⟨none, 0, [], rfl, ⟨rfl, ⟨fun i e h => by simp at h, fun e h => by simp at h, by simp⟩, fun p h => (by cases h), fun e h => (by simp at h)⟩, Only.refl _ _⟩
  · have HR := Lib.hid hR
    have HF := Lib.hid hf
    obtain ⟨n, hn⟩ : ∃ n, l.length = n := ⟨_, rfl⟩
    have HN := Lib.hid hn
    rw [hn] at h0 hlen ⊢
    have d1 : ((n : Int) == 0) = false := beq_eq_false_iff_ne.2 (by omega)
    obtain ⟨cs, hcs, hmk⟩ := run_makeV n hlen
    obtain ⟨b, hb⟩ : ∃ b, w.heap.size = b := ⟨_, rfl⟩
    have HB := Lib.hid hb
    have HQ0 := Lib.hid (show Blk (w.alloc (.cells cs 34)) b 34 cs by rw [← hb]; exact Blk.new w 34 _)
    have HO0 := Lib.hid (show Only [] w (w.alloc (.cells cs 34)) from (Only.refl _ _).alloc _)
    have HCS := Lib.hid hcs
    have HLM := Lib.hid hlen
    clear hR hf hn hb hcs
    go_enter Tryd.func39, Tryd.ntmps39
    go_wp2_with (fail)
    clear hmk
    rw [HB.out]
    go_loopw [16] (fun i wr => ∃ (k : Nat) (es : List Vx) (cur : Array Value), i = .int .i64 k ∧ k ≤ n ∧ Hid (es.length = k) ∧ Hid (PartV (b + 1) wr g l b es) ∧ Hid (Blk wr b 34 cur) ∧ Hid (cur.size = n * 4) ∧ Hid (Only [] w wr)) (fun i _ => n - (intOf i).toNat)
    case atStart => exact ⟨0, [], cs, rfl, Nat.zero_le _, Lib.hid rfl, Lib.hid ⟨fun i e' h => by simp at h⟩, HQ0, HCS, HO0⟩
    case round =>
      obtain ⟨k, es, cur, rfl, hk, HEK, HES, HQ, HCUR, HOr⟩ := hrel
      by_cases hlt : k < n
      · obtain ⟨e, he⟩ : ∃ e, l[k]? = some e := ⟨_, List.getElem?_eq_getElem (by rw [HN.out]; exact hlt)⟩
        have hmem : e ∈ l := List.mem_of_getElem? he
        have HE := Lib.hid he
        have HLe := Lib.hid ((HR.out.sub e hmem).keep HOr.out)
        have hcall := HF.out e hmem
        obtain ⟨ge, hge⟩ : ∃ ge, g e = ge := ⟨_, rfl⟩
        have HGE := Lib.hid hge
        rw [hge] at hcall
        have hrow := (HR.out.row k _ he).only HOr.out (by simp)
        obtain ⟨xk, xn, xs, xA, xcap, xl⟩ := e
        obtain ⟨bb, o, rfl, hbb, c0, c1, c2, c3⟩ := hrow.cells
        have HCA := Lib.hid (show ∀ w', Only [] w w' → LiesV w' (.mk xk xn xs xA xcap xl) → Calls Tryd.prog f #[.agg #[.int .i64 xk, .int .i64 xn, .string xs, .slice xA xl.length xcap]] w' fun r w'' => ∃ yk yn ys yA ycap yl, r = .returned (.agg #[.int .i64 yk, .int .i64 yn, .string ys, .slice yA (List.length yl) ycap]) ∧ CpV w'.heap.size w'' ge (.mk yk yn ys yA ycap yl) ∧ Only [] w' w'' from fun w' o' hl => (hcall w' o' hl).mono fun r w'' ⟨e', h1, h2, h3⟩ => by
          obtain ⟨yk, yn, ys, yA, ycap, yl⟩ := e'
          exact ⟨yk, yn, ys, yA, ycap, yl, h1, h2, h3⟩)
        have oA : Only [] wr (wr.alloc (.cells #[.int .i64 xk, .int .i64 xn, .string xs, .slice xA xl.length xcap] 34)) := (Only.refl _ _).alloc _
        have HOA := Lib.hid oA
        have ik0 : (0 : Int) ≤ (k : Int) := by omega
        have ik1 : (k : Int) < (n : Int) := by omega
        have HK5 := Lib.hid (show k * 4 + 4 ≤ cur.size by rw [HCUR.out]; omega)
        clear he hmem hcall hge oA hrow
        go_wp2_with (fail)
        refine (HCA.out _ (HOr.out.trans HOA.out (by simp)) (HLe.out.keep HOA.out)).mono ?_
        rintro r w5 ⟨yk, yn, ys, yA, ycap, yl, rfl, hcp, o3⟩
        have HO5 := Lib.hid (HOA.out.trans o3 (by simp))
        have HCP := Lib.hid (hcp.low (B' := b + 1) (by have := HQ.out.lt; have := HOA.out.size; omega))
        have hq5 := HO5.out.blk HQ.out (by simp)
        have HQ5 := Lib.hid hq5
        have hk5 := HK5.out
        obtain ⟨v0, g0⟩ := hq5.cellsAt (k * 4) (by omega)
        obtain ⟨v1, g1⟩ := hq5.cellsAt (k * 4 + 1) (by omega)
        obtain ⟨v2, g2⟩ := hq5.cellsAt (k * 4 + 2) (by omega)
        obtain ⟨v3, g3⟩ := hq5.cellsAt (k * 4 + 3) (by omega)
        have f0 := hq5.frozen (k * 4)
        have f1 := hq5.frozen (k * 4 + 1)
        have f2 := hq5.frozen (k * 4 + 2)
        have f3 := hq5.frozen (k * 4 + 3)
        have bl5 := hq5.lt
        clear o3 c0 c1 c2 c3 hq5 hcp hk5
        go_wp2_with (fail)
        generalize hw6 : ((((w5.setCell ⟨b, k * 4, none⟩ (.int .i64 yk)).setCell ⟨b, k * 4 + 1, none⟩ (.int .i64 yn)).setCell ⟨b, k * 4 + 2, none⟩ (.string ys)).setCell ⟨b, k * 4 + 3, none⟩ (.slice yA yl.length ycap)) = w6
        have HW6 := Lib.hid (show setRowV w5 b k (.int .i64 yk) (.int .i64 yn) (.string ys) (.slice yA yl.length ycap) = w6 from hw6)
        clear hw6 g0 f0 g1 f1 g2 f2 g3 f3 bl5
        go_roundw
        case rel =>
          refine ⟨k + 1, es ++ [.mk yk yn ys yA ycap yl], _, by go_num, by omega, Lib.hid (by rw [List.length_append, HEK.out]; rfl), Lib.hid ?_, Lib.hid (by rw [← HW6.out]; exact setRow_blkV HQ5.out _ _ _ _), Lib.hid (by simp [HCUR.out]), Lib.hid ?_⟩
          · have hek := HEK.out
            subst hek
            rw [← HW6.out]
            refine HES.out.step HE.out (Nat.lt_succ_self _) HO5.out HQ5.out HK5.out ?_
            rw [HGE.out]
            exact HCP.out
          · rw [← HW6.out]
            exact (HOr.out.trans HO5.out (by simp)).trans (setRow_onlyV _ _ _ _ _ _ _) (fun x hx => by simp at hx; subst hx; exact .inr (by rw [HB.out]; exact Nat.le_refl _))
        case measure => simp [intOf]; omega
      · have hke : k = n := by omega
        have iz : ¬ (n : Int) < (n : Int) := by omega
        have HM := Lib.hid (HES.out.done (B' := b) (by rw [HEK.out, HN.out]; exact hke) (Nat.le_refl _) (Nat.lt_succ_self _) HQ.out.lt (by rw [HN.out]; have := HLM.out; omega))
        have HKE := Lib.hid hke
        rw [hke]
        clear hke hlt hk
        go_wp2_with (fail)
        go_ret
        exact ⟨some ⟨b, 0, none⟩, n, es, by rw [HEK.out, HKE.out]; rfl, by rw [HB.out]; exact HM.out, HOr.out⟩
set_option maxHeartbeats 4000000 in
theorem eachT (f : Nat) (g : Vx → Tt) (eg : ∀ args w, (callFunc f args).run Tryd.prog w = .ok (.enter f args) w) {A : Option Addr} {cap : Nat} {l : List Vx} {w : World} (hR : RowLV w A l) (hlen : l.length ≤ 1048576)
    (hf : ∀ a ∈ l, ∀ w', Only [] w w' → LiesV w' a → Calls Tryd.prog f #[a.val] w' fun r w'' => ∃ e', r = .returned (Tx.val e') ∧ CpT w'.heap.size w'' (g a) e' ∧ Only [] w' w'') :
    Calls Tryd.prog 55 #[.slice A l.length cap, .func (.func f) #[] #[]] w fun r w' => ∃ (A' : Option Addr) (cap' : Nat) (es : List Tx), r = .returned (.slice A' es.length cap') ∧ MadeT w.heap.size w' (l.map g) A' es ∧ Only [] w w' := by
  by_cases h0 : l.length = 0
  · have HE : l = [] := List.length_eq_zero_iff.1 h0
    subst HE
    clear hf hR hlen h0
    show Calls Tryd.prog 55 #[.slice A (0 : Nat) cap, .func (.func f) #[] #[]] w _
    go_enter Tryd.func55, Tryd.ntmps55
    go_wp2_with (fail)
    go_ret
    exact ⟨none, 0, [], rfl, ⟨rfl, ⟨fun i e h => by simp at h, fun e h => by simp at h, by simp⟩, fun p h => (by cases h), fun e h => (by simp at h)⟩, Only.refl _ _⟩
  · have HR := Lib.hid hR
    have HF := Lib.hid hf
    obtain ⟨n, hn⟩ : ∃ n, l.length = n := ⟨_, rfl⟩
    have HN := Lib.hid hn
    rw [hn] at h0 hlen ⊢
    have d1 : ((n : Int) == 0) = false := beq_eq_false_iff_ne.2 (by omega)
    obtain ⟨cs, hcs, hmk⟩ := run_makeT n hlen
    obtain ⟨b, hb⟩ : ∃ b, w.heap.size = b := ⟨_, rfl⟩
    have HB := Lib.hid hb
    have HQ0 := Lib.hid (show Blk (w.alloc (.cells cs 26)) b 26 cs by rw [← hb]; exact Blk.new w 26 _)
    have HO0 := Lib.hid (show Only [] w (w.alloc (.cells cs 26)) from (Only.refl _ _).alloc _)
    have HCS := Lib.hid hcs
    have HLM := Lib.hid hlen
    clear hR hf hn hb hcs
    go_enter Tryd.func55, Tryd.ntmps55
    go_wp2_with (fail)
    clear hmk
    rw [HB.out]
    go_loopw [16] (fun i wr => ∃ (k : Nat) (es : List Tx) (cur : Array Value), i = .int .i64 k ∧ k ≤ n ∧ Hid (es.length = k) ∧ Hid (PartT (b + 1) wr g l b es) ∧ Hid (Blk wr b 26 cur) ∧ Hid (cur.size = n * 2) ∧ Hid (Only [] w wr)) (fun i _ => n - (intOf i).toNat)
    case atStart => exact ⟨0, [], cs, rfl, Nat.zero_le _, Lib.hid rfl, Lib.hid ⟨fun i e' h => by simp at h⟩, HQ0, HCS, HO0⟩
    case round =>
      obtain ⟨k, es, cur, rfl, hk, HEK, HES, HQ, HCUR, HOr⟩ := hrel
      by_cases hlt : k < n
      · obtain ⟨e, he⟩ : ∃ e, l[k]? = some e := ⟨_, List.getElem?_eq_getElem (by rw [HN.out]; exact hlt)⟩
        have hmem : e ∈ l := List.mem_of_getElem? he
        have HE := Lib.hid he
        have HLe := Lib.hid ((HR.out.sub e hmem).keep HOr.out)
        have hcall := HF.out e hmem
        obtain ⟨ge, hge⟩ : ∃ ge, g e = ge := ⟨_, rfl⟩
        have HGE := Lib.hid hge
        rw [hge] at hcall
        have hrow := (HR.out.row k _ he).only HOr.out (by simp)
        obtain ⟨xk, xn, xs, xA, xcap, xl⟩ := e
        obtain ⟨bb, o, rfl, hbb, c0, c1, c2, c3⟩ := hrow.cells
        have HCA := Lib.hid (show ∀ w', Only [] w w' → LiesV w' (.mk xk xn xs xA xcap xl) → Calls Tryd.prog f #[.agg #[.int .i64 xk, .int .i64 xn, .string xs, .slice xA xl.length xcap]] w' fun r w'' => ∃ yk yA ycap yl, r = .returned (.agg #[.int .i64 yk, .slice yA (List.length yl) ycap]) ∧ CpT w'.heap.size w'' ge (.mk yk yA ycap yl) ∧ Only [] w' w'' from fun w' o' hl => (hcall w' o' hl).mono fun r w'' ⟨e', h1, h2, h3⟩ => by
          obtain ⟨yk, yA, ycap, yl⟩ := e'
          exact ⟨yk, yA, ycap, yl, h1, h2, h3⟩)
        have oA : Only [] wr (wr.alloc (.cells #[.int .i64 xk, .int .i64 xn, .string xs, .slice xA xl.length xcap] 34)) := (Only.refl _ _).alloc _
        have HOA := Lib.hid oA
        have ik0 : (0 : Int) ≤ (k : Int) := by omega
        have ik1 : (k : Int) < (n : Int) := by omega
        have HK5 := Lib.hid (show k * 2 + 2 ≤ cur.size by rw [HCUR.out]; omega)
        clear he hmem hcall hge oA hrow
        go_wp2_with (fail)
        refine (HCA.out _ (HOr.out.trans HOA.out (by simp)) (HLe.out.keep HOA.out)).mono ?_
        rintro r w5 ⟨yk, yA, ycap, yl, rfl, hcp, o3⟩
        have HO5 := Lib.hid (HOA.out.trans o3 (by simp))
        have HCP := Lib.hid (hcp.low (B' := b + 1) (by have := HQ.out.lt; have := HOA.out.size; omega))
        have hq5 := HO5.out.blk HQ.out (by simp)
        have HQ5 := Lib.hid hq5
        have hk5 := HK5.out
        obtain ⟨v0, g0⟩ := hq5.cellsAt (k * 2) (by omega)
        obtain ⟨v1, g1⟩ := hq5.cellsAt (k * 2 + 1) (by omega)
        have f0 := hq5.frozen (k * 2)
        have f1 := hq5.frozen (k * 2 + 1)
        have bl5 := hq5.lt
        clear o3 c0 c1 c2 c3 hq5 hcp hk5
        go_wp2_with (fail)
        generalize hw6 : ((w5.setCell ⟨b, k * 2, none⟩ (.int .i64 yk)).setCell ⟨b, k * 2 + 1, none⟩ (.slice yA yl.length ycap)) = w6
        have HW6 := Lib.hid (show setRowT w5 b k (.int .i64 yk) (.slice yA yl.length ycap) = w6 from hw6)
        clear hw6 g0 f0 g1 f1 bl5
        go_roundw
        case rel =>
          refine ⟨k + 1, es ++ [.mk yk yA ycap yl], _, by go_num, by omega, Lib.hid (by rw [List.length_append, HEK.out]; rfl), Lib.hid ?_, Lib.hid (by rw [← HW6.out]; exact setRow_blkT HQ5.out _ _), Lib.hid (by simp [HCUR.out]), Lib.hid ?_⟩
          · have hek := HEK.out
            subst hek
            rw [← HW6.out]
            refine HES.out.step HE.out (Nat.lt_succ_self _) HO5.out HQ5.out HK5.out ?_
            rw [HGE.out]
            exact HCP.out
          · rw [← HW6.out]
            exact (HOr.out.trans HO5.out (by simp)).trans (setRow_onlyT _ _ _ _ _) (fun x hx => by simp at hx; subst hx; exact .inr (by rw [HB.out]; exact Nat.le_refl _))
        case measure => simp [intOf]; omega
      · have hke : k = n := by omega
        have iz : ¬ (n : Int) < (n : Int) := by omega
        have HM := Lib.hid (HES.out.done (B' := b) (by rw [HEK.out, HN.out]; exact hke) (Nat.le_refl _) (Nat.lt_succ_self _) HQ.out.lt (by rw [HN.out]; have := HLM.out; omega))
        have HKE := Lib.hid hke
        rw [hke]
        clear hke hlt hk
        go_wp2_with (fail)
        go_ret
        exact ⟨some ⟨b, 0, none⟩, n, es, by rw [HEK.out, HKE.out]; rfl, by rw [HB.out]; exact HM.out, HOr.out⟩
end Go.Proofs.YtgpljjejfebhoaaDoor
