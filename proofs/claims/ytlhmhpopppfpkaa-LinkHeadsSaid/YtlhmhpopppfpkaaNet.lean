/- A net in memory. -/
import Derived.Test.YtlhmhpopppfpkaaMap
namespace Go.Proofs.Ytlhmhpopppfpkaa
open Go.RowKit Go.Kx Go.Maps
set_option maxRecDepth 100000

/-- an element that leads to memory is told as it is -/
abbrev RH (v : Value) : Option (DataW Value × List MemPlace) := some (.held v, [])
theorem wpList_lookup_held {P : Program} (w : World) {ops : Array Oper} {rest : List Oper} {o : Oper} {a : Act} {Q : Exit → Act → World → Prop}
    (hg : o.guard = none) (m x : Operand) (t : TypeId) (hop : o.op = Op.lookup t m x false)
    (k e : TypeId) (K : Keyed P k) (ht : P.underlying t = some (.map k e)) {z : Value} (hz : (zeroValue e).run P w = .ok z w) (b n : Nat) (D : DataW Value)
    (hm : a.eval m = .map (some b)) (hown : w.ownsMap P k RH b n D) (key : Value) (l : Lit) (hx : a.eval x = key) (hkey : keyOf P k key = some l) (v : Value) (hv : D.atKey l (.held z) = .held v)
    (hK : wpList P ops Q rest (a.put o.dst v) w) :
    wpList P ops Q (o :: rest) a w := by
  refine wpList_plain hg fun K' hK' => ?_
  obtain ⟨u, ps, hrun, hu⟩ := hown.lookup K ht hz (zd := .held z) (zp := []) rfl hkey
  rw [hv] at hu
  injection hu with hu
  injection hu with hu _
  injection hu with hu
  subst hu
  unfold Oper.wp
  simp [execOp, hop, hm, hx, hrun, Result.andThen]
  exact hK' _ _ hK
theorem _root_.Go.World.ownsMap.norm {H : Type} {w : World} {P : Program} {k : TypeId} {R : Value → Option (DataW H × List MemPlace)} {b n : Nat} {D : DataW H} (h : w.ownsMap P k R b n D) {n' : Nat} (hn : Maps.size D ≤ n') : w.ownsMap P k R b n' D := by
  obtain ⟨es, clock, hb, F, _, rfl⟩ := h
  exact ⟨es, clock, hb, F, by simpa [Maps.size, length_sorted] using hn, rfl⟩

structure Lane where
  b : Nat
  rb : Nat
  size : Nat
  xs : List Int
abbrev lv (b : Nat) (s : Nat) : Value := .agg #[.pointer (some ⟨b, 0, none⟩), .int .i64 s]
abbrev lz : Value := .agg #[.pointer none, .int .i64 0]
theorem zero61 (w : World) : (zeroValue 61).run Try.prog w = .ok lz w := by kernel_rfl
abbrev Pr := Int × Int
def keyB (Ls : List (Pr × Lane)) (p : Pr) : Bool := Ls.any fun e => e.1 == p
structure LD (D : DataW Value) (Ls : List (Pr × Lane)) : Prop where
  tidy : Tidy D
  size_ : Maps.size D = Ls.length
  nd : (Ls.map (·.1)).Nodup
  ok : ∀ e ∈ Ls, I64 e.1.1 ∧ I64 e.1.2
  has_ : ∀ a b, I64 a → I64 b → Maps.has D (kl a b) = keyB Ls (a, b)
  at_ : ∀ e ∈ Ls, ∀ z, D.atKey (kl e.1.1 e.1.2) z = .held (lv e.2.b e.2.size)
theorem LD.nil : LD (.map []) [] := ⟨tidy_empty, rfl, by simp, fun e h => by simp at h, fun _ _ _ _ => rfl, fun e h => by simp at h⟩
theorem keyB_iff {Ls : List (Pr × Lane)} {p : Pr} : keyB Ls p = true ↔ ∃ l, (p, l) ∈ Ls := by
  unfold keyB
  rw [List.any_eq_true]
  constructor
  · rintro ⟨e, he, h⟩
    obtain ⟨q, l⟩ := e
    simp at h
    subst h
    exact ⟨l, he⟩
  · rintro ⟨l, hl⟩
    exact ⟨_, hl, by simp⟩
theorem keyB_false {Ls : List (Pr × Lane)} {p : Pr} (h : keyB Ls p = false) : ∀ e ∈ Ls, e.1 ≠ p := fun e he k => by
  have : keyB Ls p = true := keyB_iff.2 ⟨e.2, by rw [← k]; exact he⟩
  rw [h] at this
  cases this
theorem kl_key (a b : Int) : WideAt.IsKeyLit (kl a b) := trivial
/-- a lane is laid anew, or for the first time -/
def putL (Ls : List (Pr × Lane)) (p : Pr) (l : Lane) : List (Pr × Lane) := if keyB Ls p then Ls.map fun e => if e.1 = p then (p, l) else e else Ls ++ [(p, l)]
theorem putL_keys_in {Ls : List (Pr × Lane)} {p : Pr} {l : Lane} (h : keyB Ls p = true) : (putL Ls p l).map (·.1) = Ls.map (·.1) := by
  unfold putL
  rw [if_pos h, List.map_map]
  refine List.map_congr_left fun e _ => ?_
  by_cases he : e.1 = p
  · simp [he]
  · simp [he]
theorem putL_mem {Ls : List (Pr × Lane)} {p : Pr} {l : Lane} {e : Pr × Lane} (h : e ∈ putL Ls p l) : e = (p, l) ∨ (e ∈ Ls ∧ e.1 ≠ p) := by
  unfold putL at h
  split at h
  · obtain ⟨x, hx, rfl⟩ := List.mem_map.1 h
    by_cases hp : x.1 = p
    · rw [if_pos hp]; exact .inl rfl
    · rw [if_neg hp]; exact .inr ⟨hx, hp⟩
  · rename_i hn
    rcases List.mem_append.1 h with h | h
    · exact .inr ⟨h, keyB_false (by simpa using hn) e h⟩
    · simp at h; exact .inl h
theorem putL_in (Ls : List (Pr × Lane)) (p : Pr) (l : Lane) : (p, l) ∈ putL Ls p l := by
  unfold putL
  split
  · rename_i h
    obtain ⟨l0, h0⟩ := keyB_iff.1 h
    exact List.mem_map.2 ⟨(p, l0), h0, by simp⟩
  · exact List.mem_append_right _ (by simp)
theorem putL_old {Ls : List (Pr × Lane)} {p : Pr} {l : Lane} {e : Pr × Lane} (h : e ∈ Ls) (hp : e.1 ≠ p) : e ∈ putL Ls p l := by
  unfold putL
  split
  · exact List.mem_map.2 ⟨e, h, by rw [if_neg hp]⟩
  · exact List.mem_append_left _ h
theorem LD.put {D : DataW Value} {Ls : List (Pr × Lane)} (h : LD D Ls) {a b : Int} (ha : I64 a) (hb : I64 b) (l : Lane) : LD (D.put (kl a b) (.held (lv l.b l.size))) (putL Ls (a, b) l) := by
  have hlen : (putL Ls (a, b) l).length = if keyB Ls (a, b) then Ls.length else Ls.length + 1 := by
    unfold putL
    split <;> simp
  have hok : ∀ e ∈ putL Ls (a, b) l, I64 e.1.1 ∧ I64 e.1.2 := fun e he => by
    rcases putL_mem he with rfl | ⟨h1, _⟩
    · exact ⟨ha, hb⟩
    · exact h.ok e h1
  refine ⟨h.tidy.put (kl_key a b) _, ?_, ?_, hok, fun c d hc hd => ?_, fun e he z => ?_⟩
  · rw [size_put h.tidy, h.has_ a b ha hb, h.size_, hlen]
  · cases hk : keyB Ls (a, b) with
    | true => rw [putL_keys_in hk]; exact h.nd
    | false =>
      unfold putL
      rw [if_neg (by rw [hk]; decide), List.map_append, List.nodup_append]
      refine ⟨h.nd, by simp, fun x hx y hy => ?_⟩
      simp at hy
      subst hy
      obtain ⟨e, he, rfl⟩ := List.mem_map.1 hx
      exact keyB_false hk e he
  · by_cases hcd : (c, d) = (a, b)
    · injection hcd with h1 h2
      subst h1
      subst h2
      rw [has_put_same h.tidy.isMap (kl_key _ _)]
      exact (keyB_iff.2 ⟨l, putL_in _ _ _⟩).symm
    · have hne : kl c d ≠ kl a b := fun k => hcd (by
        obtain ⟨h1, h2⟩ := kl_inj hc hd ha hb k
        rw [h1, h2])
      rw [has_put_other hne, h.has_ c d hc hd, Bool.eq_iff_iff, keyB_iff, keyB_iff]
      constructor
      · rintro ⟨l', h'⟩
        exact ⟨l', putL_old h' hcd⟩
      · rintro ⟨l', h'⟩
        rcases putL_mem h' with h' | ⟨h', _⟩
        · injection h' with h' _
          exact absurd h' hcd
        · exact ⟨l', h'⟩
  · rcases putL_mem he with rfl | ⟨h1, h2⟩
    · exact atKey_put_same h.tidy.isMap (kl_key _ _) _ _
    · have ok := h.ok e h1
      have hne : kl e.1.1 e.1.2 ≠ kl a b := fun k => h2 (by
        obtain ⟨h3, h4⟩ := kl_inj ok.1 ok.2 ha hb k
        exact Prod.ext h3 h4)
      rw [atKey_put_other hne]
      exact h.at_ e h1 z
end Go.Proofs.Ytlhmhpopppfpkaa
