import Derived.Test.YtdneihlpdnhhnaaAll
namespace Go.Proofs.Ytdneihlpdnhhnaa
open Go.RowKit Go.Kx
attribute [local go_sem] Oper.semAt_some

set_option maxRecDepth 100000 in
set_option maxHeartbeats 2000000 in
theorem litems_any {b rb room : Nat} {xs : List Int} {w : World} (h : Qu w b rb room xs) :
    Calls Try.prog 18 #[.pointer (some ⟨b, 0, none⟩)] w fun e w' => ∃ v, e = .returned v ∧ w'.ownsRow 0 3 1 v xs.length (xs.map (.int .i64)) ∧ Only [] w w' ∧ (∀ g, v.ownBlock = some g → w.heap.size ≤ g) := by
  have H := Lib.hid h; clear h
  refine calls_marks Try.func18 rfl ?_
  simp only [Try.ntmps18, List.size_toArray, List.length_cons, List.length_nil, Nat.reduceAdd, Nat.reduceSub, Array.replicate_succ, Array.replicate_zero, List.push_toArray, List.append_toArray, List.nil_append, List.cons_append]
  go_wp2_with (fail)
  refine (all_any _ _ rfl _).mono ?_
  rintro e w1 ⟨rfl, rfl⟩
  go_wp2_with (fail)
  refine wp_rangeFunc_seqs (gf := 22) (lb := #[.pointer (some ⟨w.heap.size + 1, 0, none⟩)]) (vs := pairs xs) rfl (enters Try.func22 (by kernel_rfl) rfl)
    (all_seqs (b := b) (rb := rb) (room := room) (H.out.only (((Only.refl [] w).alloc _).alloc _) (by simp) (by simp)) (by have := Blk.new (w.alloc (Obj.cells #[Value.slice none 0 0] 36)) 24 #[.pointer (some ⟨b, 0, none⟩)]; simpa using this))
    (by intro v hv; simp [pairs] at hv; obtain ⟨k, _, rfl⟩ := hv; rfl) [w.heap.size] (by simp; omega) (by simp)
    (fun k S W => ∃ v, Blk W w.heap.size 36 #[v] ∧ W.ownsRow 0 3 1 v k ((xs.take k).map (.int .i64)) ∧ S = w.heap.size :: v.ownBlock.toList ∧ Only [] w W ∧ (∀ g, v.ownBlock = some g → w.heap.size < g))
    (fun _ _ => False) ?hI (fun _ _ _ h _ => h) ?h0
    (fun k => { tmps := #[Value.pointer (some { block := b, off := 0 }), undef, Value.slice none 0 0,
          Value.pointer (some { block := w.heap.size, off := 0 }), undef, .int .i64 (xs[k]?.getD 0),
          Value.pointer (some { block := b, off := 0 }),
          Value.func (Fn.func 22) #[] #[Value.pointer (some { block := w.heap.size + 1, off := 0 })], .int .i64 k, .int .i64 (xs[k]?.getD 0),
          undef, undef, undef, undef, undef], defers := [] }) ?assign ?body ?done (fun _ _ _ _ h _ => h.elim)
  case hI =>
    rintro k S W1 W2 ⟨v, h1, h2, h3, h4, h5⟩ hk
    exact ⟨v, hk.blk h1, ownsRow_keepC hk h2, h3, h4.keepC hk (by simp; omega), h5⟩
  case h0 =>
    exact ⟨_, (Blk.new _ _ _).alloc _, World.ownsRow_nil _ _ _ _, rfl, ((Only.refl [] w).alloc _).alloc _, fun g h => by simp [Value.ownBlock] at h⟩
  case assign =>
    intro l k v W K hv hK
    obtain ⟨hk, rfl⟩ : k < xs.length ∧ #[.int .i64 (k : Int), .int .i64 (xs[k]?.getD 0)] = v := by
      obtain ⟨i, hi, h⟩ := by simpa [pairs] using hv
      have := List.getElem?_eq_some_iff.1 hi
      simp at this
      exact ⟨this.1, by rw [this.2]; exact h⟩
    clear hk hv
    gi_wp2
    exact hK
  case body =>
    rintro l k vv S W hv ⟨v, hb, ho, rfl, hO, hf⟩
    have hv' : k < xs.length ∧ #[.int .i64 (k : Int), .int .i64 (xs[k]?.getD 0)] = vv := by
      obtain ⟨i, hi, h⟩ := by simpa [pairs] using hv
      have := List.getElem?_eq_some_iff.1 hi
      simp at this
      exact ⟨this.1, by rw [this.2]; exact h⟩
    obtain ⟨hk, rfl⟩ := hv'
    clear hv
    have c0 := hb.cell 0
    have f0 := hb.frozen 0
    simp at c0
    have hlen := H.out.len
    have hroom := H.out.room
    obtain ⟨g, cap, w1, hrun, ho1, hO1, hg⟩ := run_append1 (P := Try.prog) 3 36 Try.underlying36 int_info rfl ho (.int .i64 (xs[k]?.getD 0)) rfl (by unfold maxLen; omega) (by omega)
    have hne : v.ownBlock ≠ some w.heap.size := fun e => by have := hf _ e; omega
    have hb1 := hO1.blk hb (by cases h : v.ownBlock with | none => simp | some x => simp; intro e; exact hne (by rw [h, e]))
    have c1 := hb1.cell 0
    have f1 := hb1.frozen 0
    simp at c1
    have Hb := Lib.hid hb
    have Hb1 := Lib.hid hb1
    have Ho1 := Lib.hid ho1
    have HO1 := Lib.hid hO1
    have HO := Lib.hid hO
    have Hf := Lib.hid hf
    have Hg := Lib.hid hg
    have Hne := Lib.hid hne
    have Hk := Lib.hid hk
    clear hb hb1 ho ho1 hO1 hO hf hg hne hlen hroom hk
    gi_wp2_with (gi_at_builtin; refine wpListIn_append_run hrun rfl _ _ rfl rfl rfl rfl ?_)
    have hgw : w.heap.size < g := by
      rcases Hg.out with h | h
      · exact Hf.out g h
      · have := HO.out.size; have := Hb.out.lt; omega
    refine ⟨⟨w.heap.size :: [g], ⟨_, Hb1.out.set_ 0 _, ?_, rfl, ?_, ?_⟩, ?_⟩, ?_⟩
    · have e : List.map (Value.int IntKind.i64) (List.take (k + 1) xs) = List.map (Value.int IntKind.i64) (List.take k xs) ++ [Value.int IntKind.i64 (xs[k]?.getD 0)] := by
        rw [List.take_succ_eq_append_getElem Hk.out, List.map_append, List.getElem?_eq_getElem Hk.out]; rfl
      rw [e]
      exact ownsRow_only (only_setCell _ _ _) Ho1.out (fun g' h => by simp [Value.ownBlock] at h; simp; omega)
    · exact (HO.out.trans HO1.out (fun x hx => .inr (by cases h : v.ownBlock with | none => simp [h] at hx | some y => simp [h] at hx; subst hx; have := Hf.out _ h; omega))).setCell (.inr (Nat.le_refl _)) _
    · intro g' h; simp [Value.ownBlock] at h; omega
    · intro b' hb'
      simp at hb'
      rcases hb' with rfl | rfl
      · simp
      · rcases Hg.out with h | h
        · left; simp [h]
        · right; exact h
    · exact (HO1.out.mono (fun x hx => .inl (by simp at hx ⊢; exact .inr hx))).setCell (.inl (by simp)) _
  case done =>
    rintro D S W hD ⟨v, hb, ho, rfl, hO, hf⟩ hK
    have c0 := hb.cell 0
    simp at c0
    go_wp2_with (fail)
    refine ⟨by simp, .inl ⟨_, _, rfl, run_takeDeferred hK, ?_⟩⟩
    have hk : KeepC D W (W.putObj D (.deferred none)) := KeepC.putObj hK rfl (Nat.le_refl _)
    have e : (pairs xs).length = xs.length := by simp [pairs]
    rw [e, List.take_length] at ho
    simp at hD
    exact ⟨_, results_tmp rfl _ _ _, v, rfl, ownsRow_keepC hk ho, hO.keepC hk (by omega), fun g h => Nat.le_of_lt (hf g h)⟩

end Go.Proofs.Ytdneihlpdnhhnaa
