/- A range over a net's map. -/
import Derived.Test.YtlhmhpopppfpkaaSent
import Derived.Maps.RangeWalk
namespace Go.Proofs.Ytlhmhpopppfpkaa
open Go.RowKit Go.Kx Go.Maps
set_option maxRecDepth 100000

theorem I64_of {z : Int} (h : (Lit.int .i64 z).wf = true) : I64 z := by
  simp [Lit.wf, IntKind.min, IntKind.max, IntKind.signed, IntKind.bits] at h
  unfold I64
  omega
theorem key_inv {key : Value} {l : Lit} (h : keyOf Try.prog 50 key = some l) : ∃ p : Pr, key = .agg #[.int .i64 p.1, .int .i64 p.2] ∧ I64 p.1 ∧ I64 p.2 ∧ l = kl p.1 p.2 := by
  have hsz : ∃ m, Try.prog.types.size = m + 1 := ⟨Try.prog.types.size - 1, by kernel_rfl⟩
  have hc50 : Try.prog.cellsOf 50 = 2 := by kernel_rfl
  have hc3 : Try.prog.cellsOf 3 = 1 := by kernel_rfl
  have h3 : ∀ m v x, Try.prog.keyLits (m + 1) 3 [v] = some x → ∃ a, v = .int .i64 a ∧ I64 a := fun m v x hx => by
    unfold Program.keyLits at hx
    rw [Try.underlying3] at hx
    cases v <;> simp at hx
    obtain ⟨⟨rfl, hw⟩, _⟩ := hx
    exact ⟨_, rfl, I64_of hw⟩
  have h0 := h
  unfold keyOf at h
  rw [Try.underlying50] at h
  simp only [] at h
  split at h
  · rename_i hc
    cases key <;> simp [Value.formed, Try.underlying50, hc50] at hc
    rename_i cs
    obtain ⟨x, y, rfl⟩ : ∃ x y, cs = #[x, y] := by
      obtain ⟨l⟩ := cs
      match l, hc with
      | [x, y], _ => exact ⟨x, y, rfl⟩
    obtain ⟨m, hm⟩ := hsz
    rw [hm] at h
    simp only [Value.cells] at h
    unfold Program.keyLits at h
    rw [Try.underlying50] at h
    simp only [] at h
    rw [if_pos (by rw [hc50]; exact ⟨rfl, by kernel_rfl⟩)] at h
    simp only [List.mapM_cons, List.mapM_nil, List.drop_zero, List.drop_succ_cons, hc3, List.take_succ_cons, List.take_zero] at h
    cases hx : Try.prog.keyLits (m + 1) 3 [x] with
    | none => rw [hx] at h; simp at h
    | some lx =>
      cases hy : Try.prog.keyLits (m + 1) 3 [y] with
      | none => rw [hx, hy] at h; simp at h
      | some ly =>
        obtain ⟨a, rfl, ha⟩ := h3 _ _ _ hx
        obtain ⟨b, rfl, hb⟩ := h3 _ _ _ hy
        refine ⟨(a, b), rfl, ha, hb, ?_⟩
        have := key_of ha hb
        rw [h0] at this
        exact Option.some.inj this
  · cases h
abbrev pv (p : Pr) : Value := .agg #[.int .i64 p.1, .int .i64 p.2]
/-- a range over the map of a net's lanes is under way: these are still to come -/
def Due (w : World) (bm r : Nat) (Ls todo : List (Pr × Lane)) : Prop :=
  ∃ (D : DataW Value) (n : Nat) (left : Lit → Bool) (cnt : Nat), w.ranges Try.prog 50 RH bm r n D left cnt ∧ LD D Ls ∧ (∀ l, left l = true → Maps.has D l = true) ∧ todo = Ls.filter fun e => left (kl e.1.1 e.1.2)
theorem Due.kept {w w' : World} {bm r : Nat} {Ls todo : List (Pr × Lane)} (h : Due w bm r Ls todo) {S : List Nat} (o : Only S w w') (hb : bm ∉ S) (hr : r ∉ S) : Due w' bm r Ls todo := by
  obtain ⟨D, n, left, cnt, hrg, rest⟩ := h
  refine ⟨D, n, left, cnt, ?_, rest⟩
  have h1 := hrg.owns.lt
  have h2 := hrg.lt
  obtain ⟨es, clock, since, seen, c0, e1, F, hs, hD, e2, rr⟩ := hrg
  exact ⟨es, clock, since, seen, c0, (o.block bm h1 hb).trans e1, F, hs, hD, (o.block r h2 hr).trans e2, rr⟩
theorem Due.lt {w : World} {bm r : Nat} {Ls todo : List (Pr × Lane)} (h : Due w bm r Ls todo) : r < w.heap.size := by
  obtain ⟨D, n, left, cnt, hrg, _⟩ := h
  exact hrg.lt
theorem Due.sub {w : World} {bm r : Nat} {Ls todo : List (Pr × Lane)} (h : Due w bm r Ls todo) : ∀ e ∈ todo, e ∈ Ls := by
  obtain ⟨D, n, left, cnt, _, _, _, rfl⟩ := h
  exact fun e he => (List.mem_filter.1 he).1
theorem Due.nd {w : World} {bm r : Nat} {Ls todo : List (Pr × Lane)} (h : Due w bm r Ls todo) : (todo.map (·.1)).Nodup := by
  obtain ⟨D, n, left, cnt, _, hl, _, rfl⟩ := h
  exact hl.nd.sublist (List.filter_sublist.map _)
theorem grown_only {w w' : World} {row : Option Nat} (h : w.grownBy w' row) : Only row.toList w w' := ⟨h.os, h.tape, h.output, h.size, fun k hk hn => h.block k hk (fun e => hn (by rw [← e]; simp))⟩
theorem wpList_range_due (w : World) {ops : Array Oper} {rest : List Oper} {o : Oper} {a : Act} {Q : Exit → Act → World → Prop}
    (hg : o.guard = none) (m : Operand) (hop : o.op = Op.range 56 m) (bm n : Nat) (D : DataW Value) (Ls : List (Pr × Lane)) (hm : a.eval m = .map (some bm)) (hown : w.ownsMap Try.prog 50 RH bm n D) (hl : LD D Ls)
    (hK : ∀ w', Due w' bm w.heap.size Ls Ls → Only [] w w' → w'.heap.size = w.heap.size + 1 → wpList Try.prog ops Q rest (a.put o.dst (.pointer (some ⟨w.heap.size, 0, none⟩))) w') :
    wpList Try.prog ops Q (o :: rest) a w :=
  wpList_range_own w hg m 56 hop 50 61 law50 Try.underlying56 RH bm n D hm hown fun w' h1 h2 h3 => hK w' ⟨D, n, _, _, h1, hl, fun _ h => h, by
    refine (List.filter_eq_self.2 fun e he => ?_).symm
    have := hl.ok e he
    rw [hl.has_ _ _ this.1 this.2]
    exact keyB_iff.2 ⟨e.2, he⟩⟩ (grown_only h2) h3
theorem wpList_next_due (w : World) {ops : Array Oper} {rest : List Oper} {o : Oper} {a : Act} {Q : Exit → Act → World → Prop}
    (hg : o.guard = none) (it : Operand) (hop : o.op = Op.next it false) (bm r : Nat) (Ls todo : List (Pr × Lane)) (hit : a.eval it = .pointer (some ⟨r, 0, none⟩)) (h : Due w bm r Ls todo)
    (hDone : todo = [] → wpList Try.prog ops Q rest (a.put o.dst (.tuple #[.bool false])) w)
    (hMore : ∀ (p : Pr) (l : Lane) (w' : World), (p, l) ∈ todo → Due w' bm r Ls (todo.filter fun e => !decide (e.1 = p)) → w'.rangeLeft bm r < w.rangeLeft bm r → Only [r] w w' → w'.heap.size = w.heap.size →
      (Instr.entry (.pointer (some ⟨r, 0, none⟩))).run Try.prog w' = .ok (.tuple #[pv p, lv l.b l.size]) w' → wpList Try.prog ops Q rest (a.put o.dst (.tuple #[.bool true, pv p, lv l.b l.size])) w') :
    wpList Try.prog ops Q (o :: rest) a w := by
  obtain ⟨D, n, left, cnt, hrg, hl, hsub, rfl⟩ := h
  refine wpList_next_ranges w hg it hop 50 law50 RH pv (fun v : Value => v) (fun key l hk => by obtain ⟨p, rfl, _⟩ := key_inv hk; exact ⟨p, rfl⟩) (fun v y _ => ⟨v, rfl⟩) bm r n D left cnt hit hrg (fun h0 hl0 => hDone ?_) ?_
  · exact List.filter_eq_nil_iff.2 fun e _ => by rw [hl0]; simp
  · intro p c l y w' cnt' hkey hlk hv hat hrg' hlt hgr hsz hen
    obtain ⟨p', hp', hp1, hp2, rfl⟩ := key_inv hkey
    obtain rfl : p = p' := by
      injection hp' with hp'
      simp at hp'
      exact Prod.ext hp'.1 hp'.2
    have hhas := hsub _ hlk
    rw [hl.has_ _ _ hp1 hp2] at hhas
    obtain ⟨e, he⟩ := keyB_iff.1 hhas
    have hc : c = lv e.b e.size := by
      have h1 := hat (.held lz)
      rw [hl.at_ _ he] at h1
      unfold RH at hv
      injection hv with hv
      rw [← hv] at h1
      injection h1 with h1
      exact h1.symm
    subst hc
    refine hMore p e w' (List.mem_filter.2 ⟨he, hlk⟩) ⟨D, n, _, cnt', hrg', hl, fun l hll => hsub l (by simp at hll; exact hll.1), ?_⟩ (by rw [hrg'.left_eq, hrg.left_eq]; exact hlt) (grown_only hgr) hsz hen
    rw [List.filter_filter]
    refine List.filter_congr fun f hf => ?_
    have hok := hl.ok f hf
    have hsk : (kl f.1.1 f.1.2).sameKey (kl p.1 p.2) = decide (f.1 = p) := by
      by_cases hfp : f.1 = p
      · rw [hfp]
        simp
        exact WideAt.sameKey_self (kl_key _ _)
      · cases hs : (kl f.1.1 f.1.2).sameKey (kl p.1 p.2) with
        | false => simp [hfp]
        | true =>
          obtain ⟨h1, h2⟩ := kl_inj hok.1 hok.2 hp1 hp2 (WideAt.sameKey_eq hs)
          exact absurd (Prod.ext h1 h2) hfp
    rw [hsk, Bool.and_comm]
theorem total_strike : ∀ {todo : List (Pr × Lane)} {p : Pr} {l : Lane}, (todo.map (·.1)).Nodup → (p, l) ∈ todo → total todo = l.xs.length + total (todo.filter fun e => !decide (e.1 = p))
  | [], _, _, _, h => by simp at h
  | e :: t, p, l, hn, h => by
    simp only [List.map_cons, List.nodup_cons] at hn
    have e1 : total (e :: t) = e.2.xs.length + total t := by unfold total; simp
    rcases List.mem_cons.1 h with h | h
    · subst h
      rw [List.filter_cons_of_neg (by simp), e1]
      rw [List.filter_eq_self.2 fun f hf => by
        simp
        exact fun k => hn.1 (List.mem_map.2 ⟨f, hf, k⟩)]
    · have hp : e.1 ≠ p := fun k => hn.1 (List.mem_map.2 ⟨_, h, k.symm⟩)
      rw [List.filter_cons_of_pos (by simp [hp]), e1]
      have e2 : total (e :: t.filter fun e => !decide (e.1 = p)) = e.2.xs.length + total (t.filter fun e => !decide (e.1 = p)) := by unfold total; simp
      have := total_strike hn.2 h
      rw [e2]
      omega
end Go.Proofs.Ytlhmhpopppfpkaa
