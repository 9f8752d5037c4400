/- Scan: the words of a text. -/
import Derived.Test.YtghofiehkdhbeaaDoorAll
namespace Go.Proofs.YtghofiehkdhbeaaDoor
open Go.RowKit Go.Kx Go.Tok
attribute [local go_sem] Oper.semAt_some
set_option maxRecDepth 100000

theorem _root_.Go.Kx.SeqsP.later {P : Program} {gf : Nat} {lb : Array Value} {N : Nat} {R : Nat → Array Value → World → Prop} {prot : List Nat} {w w' : World} (h : SeqsP P gf lb N R prot w) (o : Only [] w w') : SeqsP P gf lb N R prot w' :=
  fun l J Jx W S hK hl => h l J Jx W S ((KeepC.of_only o).trans (hK.mono o.size)) (Nat.le_trans o.size hl)
/-- the words, or the place of the first that is none, and why -/
def scanR (s : ByteArray) : Out := if 16384 < s.size then ([], some (0, 9)) else scanL s.data.toList 0
theorem outs_eq (s : ByteArray) : outs s = vsOf (scanR s) := by
  unfold outs scanR
  split <;> rfl
theorem outs_size (s : ByteArray) (v : Array Value) (h : v ∈ outs s) : v.size = 2 := by
  rw [outs_eq] at h
  unfold vsOf at h
  rcases List.mem_append.1 h with h | h
  · obtain ⟨x, _, rfl⟩ := List.mem_map.1 h; rfl
  · split at h
    · cases h
    · simp at h; subst h; rfl
theorem owns_ne {w : World} {base : Nat} {e t : TypeId} {size n : Nat} {v : Value} {xs : List Value} {g : Nat} {cs : Array Value} (h : w.ownsRow base e size v n xs) (hb : Blk w g t cs) (hne : e ≠ t) : v.ownBlock ≠ some g := by
  rcases h.2 with ⟨rfl, _⟩ | ⟨g', cap, cur, rfl, _, hg, _⟩
  · simp [Value.ownBlock]
  · intro k
    simp [Value.ownBlock] at k
    subst k
    unfold Blk at hb
    rw [hg] at hb
    injection hb with hb
    injection hb with _ h2 _
    exact hne h2
def cellsW (x : Word) : List Value := [.int .i64 x.t.kind, .string ⟨x.t.s.toArray⟩, .int .i64 x.t.n, .int .i64 x.at_]
def flatW (L : List Word) : List Value := L.flatMap cellsW
theorem flatW_snoc (L : List Word) (e : Word) : flatW (L ++ [e]) = flatW L ++ cellsW e := by simp [flatW]
theorem flatW_length : ∀ L : List Word, (flatW L).length = L.length * 4
  | [] => rfl
  | a :: L => by
    have : flatW (a :: L) = cellsW a ++ flatW L := rfl
    rw [this, List.length_append, flatW_length L, List.length_cons]
    simp [cellsW]
    omega
theorem flatW_at : ∀ (L : List Word) (i : Nat) (e : Word), L[i]? = some e → ∀ j, j < 4 → (flatW L)[i * 4 + j]? = (cellsW e)[j]?
  | [], i, s, h => by simp at h
  | a :: L, 0, s, h => by
    simp at h
    subst h
    intro j hj
    have e : flatW (a :: L) = cellsW a ++ flatW L := rfl
    rw [e, Nat.zero_mul, Nat.zero_add, List.getElem?_append_left (by simpa [cellsW] using hj)]
  | a :: L, i + 1, s, h => by
    intro j hj
    rw [← flatW_at L i s (by simpa using h) j hj]
    have : (i + 1) * 4 + j = i * 4 + j + 1 + 1 + 1 + 1 := by omega
    rw [this]
    rfl
theorem tok_info : ((Tryd.prog.info? 28).map fun i => (i.zero, i.size, i.bytes)) = some (some (.agg #[.int .i64 0, .string ⟨#[]⟩, .int .i64 0, .int .i64 0]), 4, 40) := by kernel_rfl
/-- append(v, x) of one word, v nil or the call's own -/
theorem run_appendW {w : World} {base n : Nat} {v : Value} {xs : List Value} (hown : w.ownsRow base 28 4 v n xs) (x : Word) (hbase : base ≤ w.heap.size) (hn : n ≤ 100000001) (ty : TypeId) :
    ∃ g cap w1, (Builtin.append_ #[23, 23] ty #[v, .slice (some ⟨w.heap.size, 0, none⟩) 1 1]).run Tryd.prog (w.alloc (.cells #[.int .i64 x.t.kind, .string ⟨x.t.s.toArray⟩, .int .i64 x.t.n, .int .i64 x.at_] 28)) = .ok (.slice (some ⟨g, 0, none⟩) (n + 1) cap) w1 ∧
      w1.ownsRow base 28 4 (.slice (some ⟨g, 0, none⟩) (n + 1) cap) (n + 1) (xs ++ cellsW x) ∧ Only v.ownBlock.toList w w1 ∧ (v.ownBlock = some g ∨ w.heap.size ≤ g) := by
  obtain ⟨i, hi, h0, h1, h2⟩ := info_parts tok_info
  obtain ⟨v', w1, hr, ho, hg, hn, hat⟩ := run_append_own_at (P := Tryd.prog) (w.alloc (.cells #[.int .i64 x.t.kind, .string ⟨x.t.s.toArray⟩, .int .i64 x.t.n, .int .i64 x.at_] 28)) base 23 ty 28 i _ 4 40 Tryd.underlying23 hi h0 h1 h2 rfl (by omega) v n xs (hown.alloc _) ⟨w.heap.size, 0, none⟩ 1 1 (cellsW x) rfl
    (by intro j u hj
        match j, hj with
        | 0, hj => simp [cellsW] at hj; subst hj; simp [Addr.add]
        | 1, hj => simp [cellsW] at hj; subst hj; simp [Addr.add]
        | 2, hj => simp [cellsW] at hj; subst hj; simp [Addr.add]
        | 3, hj => simp [cellsW] at hj; subst hj; simp [Addr.add])
    (by intro u hu; simp [cellsW] at hu; rcases hu with rfl | rfl | rfl | rfl <;> rfl) (by unfold maxLen; omega) (by omega) (by simp; omega)
  rcases ho.2 with ⟨rfl, hn0⟩ | ⟨g, cap, cur, rfl, hrest⟩
  · omega
  · refine ⟨g, cap, w1, hr, ho, ?_, ?_⟩
    · have := Only.of_grownBy hg
      exact ((Only.refl v.ownBlock.toList w).alloc _).trans this (fun _ h => .inl h)
    · rcases hat with h | h
      · left; rw [← h]; rfl
      · right; simp [Value.ownBlock] at h; omega
theorem all_any (s : ByteArray) (w : World) : Calls Tryd.prog 13 #[.string s] w fun e w' => ∃ cb, e = .returned (.func (.func 17) #[] #[.pointer (some ⟨cb, 0, none⟩)]) ∧ w.heap.size ≤ cb ∧ Blk w' cb 9 #[.string s] ∧ Only [] w w' := by
  have h := Blk.new w 9 #[.string s]
  go_enter Tryd.func13, Tryd.ntmps13
  go_wp2_with (fail)
  go_ret
  exact ⟨_, rfl, Nat.le_refl _, h, (Only.refl _ _).alloc _⟩
theorem scan_count : ∀ (n : Nat) (l : List UInt8) (p : Nat), l.length ≤ n → (scanL l p).1.length ≤ l.length + 1 := by
  intro n
  induction n with
  | zero =>
    intro l p hn
    have hl : l = [] := List.length_eq_zero_iff.1 (by omega)
    subst hl
    rw [scanL_eq]
    exact Nat.le_refl _
  | succ n ih =>
    intro l p hn
    rw [scanL_eq]
    cases hw : wordW (l.drop (sk false l)) with
    | bad e => exact Nat.zero_le _
    | ok t m =>
      simp only
      split
      · simp
      · rename_i h4
        obtain ⟨h1, h2, h3, _⟩ := word_len hw
        have := h3 h4
        rw [List.length_drop] at h1
        have := ih (l.drop (sk false l + m)) (p + (sk false l + m)) (by rw [List.length_drop]; omega)
        rw [List.length_drop] at this
        unfold Out.add
        simp
        omega
theorem scanR_count (s : ByteArray) : (scanR s).1.length ≤ s.size + 1 := by
  unfold scanR
  split
  · simp
  · have := scan_count _ s.data.toList 0 (Nat.le_refl _)
    simpa using this
theorem bad_ne {l : List UInt8} {e : Nat} (h : wordW l = .bad e) : e ≠ 0 := by
  obtain ⟨t, q, e1, _, h2 | ⟨n, h2, _⟩⟩ := wd_parts (l := l) (p := 0)
  · rw [h] at h2
    injection h2.1 with h3
    rw [h3]
    exact h2.2.1
  · rw [h] at h2; cases h2
theorem scan_err : ∀ (n : Nat) (l : List UInt8) (p q e : Nat), l.length ≤ n → (scanL l p).2 = some (q, e) → e ≠ 0 := by
  intro n
  induction n with
  | zero =>
    intro l p q e hn h
    have hl : l = [] := List.length_eq_zero_iff.1 (by omega)
    subst hl
    rw [scanL_eq] at h
    cases h
  | succ n ih =>
    intro l p q e hn h
    rw [scanL_eq] at h
    cases hw : wordW (l.drop (sk false l)) with
    | bad e' =>
      rw [hw] at h
      injection h with h
      injection h with _ h
      subst h
      exact bad_ne hw
    | ok t m =>
      rw [hw] at h
      simp only at h
      split at h
      · cases h
      · rename_i h4
        obtain ⟨h1, h2, h3, _⟩ := word_len hw
        have := h3 h4
        rw [List.length_drop] at h1
        exact ih (l.drop (sk false l + m)) (p + (sk false l + m)) q e (by rw [List.length_drop]; omega) h
theorem scanR_err {s : ByteArray} {ws : List Word} {q e : Nat} (h : scanR s = (ws, some (q, e))) : e ≠ 0 := by
  unfold scanR at h
  split at h
  · injection h with _ h
    injection h with h
    injection h with _ h
    omega
  · exact scan_err _ s.data.toList 0 q e (Nat.le_refl _) (by rw [h])
/-- what Scan answers -/
def ScanPost (s : ByteArray) (w : World) (r : Ending) (w' : World) : Prop := Only [] w w' ∧
  match scanR s with
  | (ws, none) => ∃ A c, r = .returned (.tuple #[.slice A ws.length c, .int .i64 0, .int .i64 0]) ∧ w'.ownsRow w.heap.size 28 4 (.slice A ws.length c) ws.length (flatW ws)
  | (_, some (p, e)) => r = .returned (.tuple #[.slice none 0 0, .int .i64 p, .int .i64 e])
theorem take_snocW {ws : List Word} {k : Nat} {x : Word} (h : ws[k]? = some x) : flatW (ws.take (k + 1)) = flatW (ws.take k) ++ cellsW x := by
  rw [List.take_add_one, h]
  exact flatW_snoc _ _
set_option maxHeartbeats 4000000 in
theorem scan_any (s : ByteArray) (hs : s.size ≤ 100000000) {w : World} (hT : Tabs w) : Calls Tryd.prog 8 #[.string s] w (ScanPost s w) := by
  obtain ⟨ws, er, hsc⟩ : ∃ ws er, scanR s = (ws, er) := ⟨_, _, rfl⟩
  have hlt0 : 0 < w.heap.size ∧ 3 < w.heap.size := ⟨by
    obtain ⟨t, fr, h⟩ := hT.marks
    exact (Array.getElem?_eq_some_iff.1 h).1, by
    obtain ⟨tp, p, t, fr, h⟩ := hT.range
    exact (Array.getElem?_eq_some_iff.1 h).1⟩
  have hwl : ws.length ≤ 100000001 := by have := scanR_count s; rw [hsc] at this; simp at this; omega
  have hou : outs s = vsOf (ws, er) := by rw [outs_eq, hsc]
  have HSC := Lib.hid hsc
  have HOU := Lib.hid hou
  have HT := Lib.hid hT
  clear hsc hou hT
  refine calls_marks Tryd.func8 rfl ?_
  simp only [Tryd.ntmps8, List.size_toArray, List.length_cons, List.length_nil, Nat.reduceAdd, Nat.reduceSub, Array.replicate_succ, Array.replicate_zero, List.push_toArray, List.append_toArray, List.nil_append, List.cons_append]
  go_wp2_with (fail)
  have hb2 : Blk ((((w.alloc (.cells #[.slice none 0 0] 23)).alloc (.cells #[.int .i64 0] 3)).alloc (.cells #[.int .i64 0] 24)).alloc (.cells #[.slice none 0 0] 23)) w.heap.size 23 #[.slice none 0 0] := (((Blk.new w 23 _).alloc _).alloc _).alloc _
  have hb3 : Blk ((((w.alloc (.cells #[.slice none 0 0] 23)).alloc (.cells #[.int .i64 0] 3)).alloc (.cells #[.int .i64 0] 24)).alloc (.cells #[.slice none 0 0] 23)) (w.heap.size + 1) 3 #[.int .i64 0] := by
    have h := Blk.new (w.alloc (.cells #[.slice none 0 0] 23)) 3 #[.int .i64 0]
    rw [World.size_alloc] at h
    exact (h.alloc _).alloc _
  have hb4 : Blk ((((w.alloc (.cells #[.slice none 0 0] 23)).alloc (.cells #[.int .i64 0] 3)).alloc (.cells #[.int .i64 0] 24)).alloc (.cells #[.slice none 0 0] 23)) (w.heap.size + 1 + 1) 24 #[.int .i64 0] := by
    have h := Blk.new ((w.alloc (.cells #[.slice none 0 0] 23)).alloc (.cells #[.int .i64 0] 3)) 24 #[.int .i64 0]
    rw [World.size_alloc, World.size_alloc] at h
    exact h.alloc _
  have hb5 : Blk ((((w.alloc (.cells #[.slice none 0 0] 23)).alloc (.cells #[.int .i64 0] 3)).alloc (.cells #[.int .i64 0] 24)).alloc (.cells #[.slice none 0 0] 23)) (w.heap.size + 1 + 1 + 1) 23 #[.slice none 0 0] := by
    have h := Blk.new (((w.alloc (.cells #[.slice none 0 0] 23)).alloc (.cells #[.int .i64 0] 3)).alloc (.cells #[.int .i64 0] 24)) 23 #[.slice none 0 0]
    rw [World.size_alloc, World.size_alloc, World.size_alloc] at h
    exact h
  have ho : Only [] w ((((w.alloc (.cells #[.slice none 0 0] 23)).alloc (.cells #[.int .i64 0] 3)).alloc (.cells #[.int .i64 0] 24)).alloc (.cells #[.slice none 0 0] 23)) := ((((Only.refl _ _).alloc _).alloc _).alloc _).alloc _
  obtain ⟨w1, hw1⟩ : ∃ w1, ((((w.alloc (.cells #[.slice none 0 0] 23)).alloc (.cells #[.int .i64 0] 3)).alloc (.cells #[.int .i64 0] 24)).alloc (.cells #[.slice none 0 0] 23)) = w1 := ⟨_, rfl⟩
  rw [hw1] at hb2 hb3 hb4 hb5 ho ⊢
  clear hw1
  obtain ⟨B, hB⟩ : ∃ B, w.heap.size = B := ⟨_, rfl⟩
  have HB := Lib.hid hB
  rw [hB] at hb2 hb3 hb4 hb5 hlt0 ⊢
  have HSZ := Lib.hid (show B ≤ w1.heap.size by rw [← hB]; exact ho.size)
  clear hB
  refine (all_any s w1).mono ?_
  rintro r w2 ⟨cb, rfl, hcb, hbx, o2⟩
  have T2 := Lib.hid (o2.blk hb2 (by simp))
  have T3 := Lib.hid (o2.blk hb3 (by simp))
  have T4 := Lib.hid (o2.blk hb4 (by simp))
  have T5 := Lib.hid (o2.blk hb5 (by simp))
  have HO := Lib.hid (ho.trans o2 (by simp))
  have HQ := Lib.hid (all_seqs hs (HT.out.keep HO.out) hbx)
  have hcl := hb5.lt
  have hbl := hbx.lt
  clear hb2 hb3 hb4 hb5 ho o2 hbx
  go_wp2_with (fail)
  refine' wp_rangeFunc_seqsP (gf := 17) (lb := #[.pointer (some ⟨cb, 0, none⟩)]) (N := (outs s).length) (R := fun k v _ => (outs s)[k]? = some v) (prot := [cb, 0, 3]) rfl (enters Tryd.func17 (by kernel_rfl) rfl)
    HQ.out (fun k v W hv => outs_size s v (List.mem_of_getElem? hv)) [B, B + 1, B + 1 + 1, B + 1 + 1 + 1] (by simp; omega) (by simp; omega)
    (fun k S W => k ≤ ws.length ∧ ∃ A c, Blk W (B + 1 + 1 + 1) 23 #[.slice A k c] ∧ W.ownsRow B 28 4 (.slice A k c) k (flatW (ws.take k)) ∧ Blk W B 23 #[.slice none 0 0] ∧ Blk W (B + 1) 3 #[.int .i64 0] ∧ Blk W (B + 1 + 1) 24 #[.int .i64 0] ∧ S = [B, B + 1, B + 1 + 1, B + 1 + 1 + 1] ++ A.toList.map (·.block) ∧ Only [] w W)
    (fun c W => c = .ret ∧ ∃ p e, er = some (p, e) ∧ Blk W B 23 #[.slice none 0 0] ∧ Blk W (B + 1) 3 #[.int .i64 (p : Nat)] ∧ Blk W (B + 1 + 1) 24 #[.int .i64 (e : Nat)] ∧ Only [] w W) ?hI ?hIx ?h0 ?round ?done ?stop
  case hI =>
    rintro k S W1 W2 ⟨hk, A, c, h1, h2, h3, h4, h5, rfl, h6⟩ hkk
    exact ⟨hk, A, c, hkk.blk h1, ownsRow_keepC hkk h2, hkk.blk h3, hkk.blk h4, hkk.blk h5, rfl, h6.keepC hkk HO.out.size⟩
  case hIx =>
    rintro c W1 W2 ⟨hc, p, e, h1, h2, h3, h4, h5⟩ hkk
    exact ⟨hc, p, e, h1, hkk.blk h2, hkk.blk h3, hkk.blk h4, h5.keepC hkk HO.out.size⟩
  case h0 => exact ⟨Nat.zero_le _, none, 0, T5.out, World.ownsRow_nil _ _ _ _, T2.out, T3.out, T4.out, rfl, HO.out⟩
  case round =>
    intro l k v S V hl hlS hk hv hIV
    have hSV : ∀ b ∈ S, b < V.heap.size := by
      obtain ⟨_, A2, c2, hb, how, h3, h4, h5, rfl, hO⟩ := hIV
      intro b hb2
      rcases List.mem_append.1 hb2 with h | h
      · have := hb.lt; simp at h; omega
      · cases A2 with
        | none => simp at h
        | some p => simp at h; subst h; exact (how.lt p.block rfl).2
    have HSV := Lib.hid hSV
    have hkw := hIV.1
    clear hSV hIV
    by_cases hkl : k < ws.length
    · obtain ⟨x, hx⟩ : ∃ x, ws[k]? = some x := ⟨_, List.getElem?_eq_getElem hkl⟩
      have hvx : v = okT x := by
        rw [HOU.out] at hv
        unfold vsOf at hv
        rw [List.getElem?_append_left (by simpa using hkl), List.getElem?_map, hx] at hv
        exact (Option.some.inj hv).symm
      subst hvx
      have HFL := Lib.hid (take_snocW hx)
      clear hv hx hk
      unfold okT tokC
      gi_wp2_with (fail)
      refine ⟨(Only.refl [] V).alloc _, fun X hrec hIX hkk => ?_⟩
      obtain ⟨_, A2, c2, hb, how, h3, h4, h5, rfl, hO⟩ := hIX
      have hsb := hkk.blk (Blk.new V 28 #[.int .i64 x.t.kind, .string ⟨x.t.s.toArray⟩, .int .i64 x.t.n, .int .i64 x.at_])
      obtain ⟨pb, hpb⟩ : ∃ pb, V.heap.size = pb := ⟨_, rfl⟩
      rw [hpb] at HSV hsb ⊢
      have HB5 := Lib.hid hb
      have HOW := Lib.hid how
      have HO' := Lib.hid hO
      have HSB := Lib.hid hsb
      have HB2 := Lib.hid h3
      have HB3 := Lib.hid h4
      have HB4 := Lib.hid h5
      obtain ⟨k0, k1, k2, k3, kl⟩ := hsb.facts4
      obtain ⟨m0, ml⟩ := hb.facts1
      have hBX : B ≤ X.heap.size := by have := h3.lt; omega
      obtain ⟨g, cap, w4, hrun, how4, o4, hg4⟩ := run_appendW how x hBX (by omega) 23
      have no : ∀ {b : Nat} {t : TypeId} {cs : Array Value}, Blk X b t cs → t ≠ 28 → b ∉ (Value.slice A2 k c2).ownBlock.toList := fun {b t cs} hb2 ht hm => by
        have h9 := owns_ne how hb2 (Ne.symm ht)
        cases hq : (Value.slice A2 k c2).ownBlock with
        | none => rw [hq] at hm; simp at hm
        | some q => rw [hq] at hm h9; simp at hm; exact h9 (by rw [hm])
      have H5 := o4.blk hb (no hb (by decide))
      have H2 := Lib.hid (o4.blk h3 (no h3 (by decide)))
      have H3 := Lib.hid (o4.blk h4 (no h4 (by decide)))
      have H4 := Lib.hid (o4.blk h5 (no h5 (by decide)))
      have HH5 := Lib.hid H5
      obtain ⟨n0, nl⟩ := H5.facts1
      have fn0 := H5.frozen 0
      have HOW4 := Lib.hid how4
      have HG4 := Lib.hid hg4
      have HRUN := Lib.hid hrun
      have hgn : g ≠ B + 1 + 1 + 1 := by
        have h9 := owns_ne how4 H5 (by decide)
        simpa [Value.ownBlock] using h9
      have hgl : g < w4.heap.size ∧ B ≤ g := by have := how4.lt g rfl; exact ⟨this.2, this.1⟩
      have hA : ∀ b, b ∈ (Value.slice A2 k c2).ownBlock.toList ↔ b ∈ A2.toList.map (·.block) := fun b => by cases A2 <;> simp [Value.ownBlock]
      have HO4 := Lib.hid (o4.mono (S' := [B, B + 1, B + 1 + 1, B + 1 + 1 + 1] ++ A2.toList.map (·.block)) (fun b hb => .inl (List.mem_append_right _ ((hA b).1 hb))))
      have HA := Lib.hid (show (∃ p, A2 = some p ∧ p.block = g) ∨ X.heap.size ≤ g from by
        rcases hg4 with h | h
        · left
          cases A2 with
          | none => simp [Value.ownBlock] at h
          | some p => simp [Value.ownBlock] at h; exact ⟨p, rfl, h⟩
        · exact .inr h)
      have HAL := Lib.hid (show ∀ p, A2 = some p → B ≤ p.block from fun p hp => by subst hp; exact (how.lt p.block rfl).1)
      have hmlX := hb.lt
      clear hkk hb how hO hsb hrec hpb h3 h4 h5 no H5 how4 o4 hg4 hA
      gi_wp2_with (gi_at_builtin; refine wpListIn_append_run hrun rfl _ _ rfl rfl rfl rfl ?_; clear hrun m0 ml k0 k1 k2 k3 kl)
      have o5 : Only ([B, B + 1, B + 1 + 1, B + 1 + 1 + 1] ++ A2.toList.map (·.block)) X (w4.setCell ⟨B + 1 + 1 + 1, 0, none⟩ (.slice (some ⟨g, 0, none⟩) (k + 1) cap)) := HO4.out.setCell (.inl (by simp)) _
      refine ⟨⟨[B, B + 1, B + 1 + 1, B + 1 + 1 + 1] ++ [g], ⟨by omega, some ⟨g, 0, none⟩, cap, HH5.out.set_ 0 _, ?_, H2.out.far (by simp; omega) _, H3.out.far (by simp) _, H4.out.far (by simp) _, rfl, HO'.out.trans o5 (fun b hb => .inr ?_)⟩, ?_⟩, o5⟩
      · rw [HFL.out]
        exact ownsRow_only (only_setCell _ _ _) HOW4.out (fun q hq => by simp [Value.ownBlock] at hq; subst hq; simpa using hgn)
      · rw [HB.out]
        rcases List.mem_append.1 hb with h | h
        · simp at h; omega
        · cases A2 with
          | none => simp at h
          | some p => simp at h; subst h; exact HAL.out p rfl
      · intro b hb
        rcases List.mem_append.1 hb with h | h
        · refine ⟨.inl (List.mem_append_left _ h), ?_⟩
          simp at h
          simp
          omega
        · simp at h
          subst h
          refine ⟨?_, by simp; exact hgl.1⟩
          rcases HA.out with ⟨p, rfl, rfl⟩ | h
          · left; simp
          · exact .inr h
    · obtain ⟨p, e, rfl, rfl, he0⟩ : ∃ p e, er = some (p, e) ∧ v = badT p e ∧ e ≠ 0 := by
        rw [HOU.out] at hv
        unfold vsOf at hv
        rw [List.getElem?_append_right (by simp; omega)] at hv
        cases er with
        | none => simp at hv
        | some pe =>
          simp only at hv
          refine ⟨pe.1, pe.2, rfl, ?_, scanR_err HSC.out⟩
          have := List.mem_of_getElem? hv
          simpa using this
      have e1 : ((e : Int) != 0) = true := by simp; omega
      have e2 : ((e : Int) == 0) = false := by simp; omega
      clear hv hk he0
      unfold badT badC
      gi_wp2_with (fail)
      refine ⟨(Only.refl [] V).alloc _, fun X hrec hIX hkk => ?_⟩
      obtain ⟨_, A2, c2, hb, how, h3, h4, h5, rfl, hO⟩ := hIX
      have hsb := hkk.blk (Blk.new V 28 #[.int .i64 0, .string ⟨#[]⟩, .int .i64 0, .int .i64 (p : Nat)])
      obtain ⟨pb, hpb⟩ : ∃ pb, V.heap.size = pb := ⟨_, rfl⟩
      rw [hpb] at HSV hsb ⊢
      have HO' := Lib.hid hO
      have HSB := Lib.hid hsb
      have HB2 := Lib.hid h3
      have HB3 := Lib.hid h4
      have HB4 := Lib.hid h5
      obtain ⟨k0, k1, k2, k3, kl⟩ := hsb.facts4
      obtain ⟨m0, ml⟩ := h3.facts1
      obtain ⟨n0, nl⟩ := h4.facts1
      obtain ⟨r0, rl⟩ := h5.facts1
      have fm := h3.frozen 0
      have fn := h4.frozen 0
      have fr := h5.frozen 0
      have hne : pb ≠ B ∧ pb ≠ B + 1 ∧ pb ≠ B + 1 + 1 := ⟨hsb.ne_ h3 (by decide), hsb.ne_ h4 (by decide), hsb.ne_ h5 (by decide)⟩
      obtain ⟨ne1, ne2, ne3⟩ := hne
      clear hkk hb how hO hsb hrec hpb h3 h4 h5
      gi_wp2_with (fail)
      gi_region
      all_goals
        gi_wp2_with (fail)
        refine ⟨⟨rfl, p, e, rfl, ?_, ?_, ?_, ?_⟩, ?_⟩
        · exact (((HB2.out.set_ 0 _).far (by simp) _).far (by simp; omega) _).drew
        · exact (((HB3.out.far (by simp) _).set_ 0 _).far (by simp) _).drew
        · exact (((HB4.out.far (by simp; omega) _).far (by simp) _).set_ 0 _).drew
        · have := HB.out
          exact (((HO'.out.setCell (.inr (by simp; omega)) _).setCell (.inr (by simp; omega)) _).setCell (.inr (by simp; omega)) _).drew
        · exact ((((Only.refl _ X).setCell (.inl (by simp)) _).setCell (.inl (by simp)) _).setCell (.inl (by simp)) _).drew
  case done =>
    rintro D S W hD ⟨hk, A, c, h1, h2, h3, h4, h5, rfl, h6⟩ hK
    have her : er = none := by
      cases er with
      | none => rfl
      | some pe => rw [HOU.out] at hk; unfold vsOf at hk; simp at hk; omega
    subst her
    have hN : (outs s).length = ws.length := by rw [HOU.out]; unfold vsOf; simp
    rw [hN] at h1 h2
    rw [List.take_length] at h2
    have H1 := Lib.hid h1
    have H2 := Lib.hid h2
    have H3 := Lib.hid h3
    have H4 := Lib.hid h4
    have H5 := Lib.hid h5
    have H6 := Lib.hid h6
    have HD := Lib.hid hK
    obtain ⟨a0, al⟩ := h1.facts1
    obtain ⟨m0, ml⟩ := h3.facts1
    obtain ⟨n0, nl⟩ := h4.facts1
    obtain ⟨r0, rl⟩ := h5.facts1
    have fm := h3.frozen 0
    have fn := h4.frozen 0
    have fr := h5.frozen 0
    have no := owns_ne h2 h3 (by decide)
    have no3 := owns_ne h2 h4 (by decide)
    have no4 := owns_ne h2 h5 (by decide)
    have HNO := Lib.hid (show ∀ g, (Value.slice A ws.length c).ownBlock = some g → g ≠ B ∧ g ≠ B + 1 ∧ g ≠ B + 1 + 1 from fun g hg => ⟨fun h => no (by rw [hg, h]), fun h => no3 (by rw [hg, h]), fun h => no4 (by rw [hg, h])⟩)
    have HDL := Lib.hid (show D ≠ B ∧ D ≠ B + 1 ∧ D ≠ B + 1 + 1 from by omega)
    clear h1 h2 h3 h4 h5 h6 hK hk hN no no3 no4
    go_wp2_with (fail)
    obtain ⟨W9, hW9⟩ : ∃ W9, (((W.setCell ⟨B, 0, none⟩ (.slice A ws.length c)).setCell ⟨B + 1, 0, none⟩ (.int .i64 0)).setCell ⟨B + 1 + 1, 0, none⟩ (.int .i64 0)) = W9 := ⟨_, rfl⟩
    have q2 : Blk W9 B 23 #[.slice A ws.length c] := by rw [← hW9]; exact ((H3.out.set_ 0 _).far (by simp) _).far (by simp; omega) _
    have q3 : Blk W9 (B + 1) 3 #[.int .i64 0] := by rw [← hW9]; exact ((H4.out.far (by simp) _).set_ 0 _).far (by simp) _
    have q4 : Blk W9 (B + 1 + 1) 24 #[.int .i64 0] := by rw [← hW9]; exact ((H5.out.far (by simp; omega) _).far (by simp) _).set_ 0 _
    have o9 : Only [B, B + 1, B + 1 + 1] W W9 := by rw [← hW9]; exact (((Only.refl _ W).setCell (.inl (by simp)) _).setCell (.inl (by simp)) _).setCell (.inl (by simp)) _
    have h9 := ownsRow_only o9 H2.out (fun g hg => by have := HNO.out g hg; simp; omega)
    have d9 : W9.heap[D]? = some (.deferred (some [])) := (o9.block D (Array.getElem?_eq_some_iff.1 HD.out).1 (by have := HDL.out; simp; omega)).trans HD.out
    rw [hW9]
    clear hW9
    have hk := KeepC.putObj (B := D) (o' := .deferred none) d9 rfl (Nat.le_refl _)
    obtain ⟨m0, ml⟩ := (hk.blk q2).facts1
    obtain ⟨n0, nl⟩ := (hk.blk q3).facts1
    obtain ⟨r0, rl⟩ := (hk.blk q4).facts1
    refine ⟨by simp, .inl ⟨_, _, rfl, run_takeDeferred d9, ?_⟩⟩
    refine ⟨.tuple #[.slice A ws.length c, .int .i64 0, .int .i64 0], by simp [results, Tryd.results8, go_sem, m0, n0, r0], ?_, ?_⟩
    · exact (H6.out.trans o9 (fun b hb => .inr (by have := HB.out; simp at hb; omega))).keepC hk (by have := HO.out.size; omega)
    · rw [HSC.out]
      exact ⟨A, c, rfl, by rw [HB.out]; exact ownsRow_keepC hk h9⟩
  case stop =>
    rintro D c W hD ⟨rfl, p, e, rfl, h3, h4, h5, h6⟩ hK
    have q2 := h3
    have q3 := h4
    have q4 := h5
    have d9 := hK
    clear h3 h4 h5 hK
    have hk := KeepC.putObj (B := D) (o' := .deferred none) d9 rfl (Nat.le_refl _)
    obtain ⟨m0, ml⟩ := (hk.blk q2).facts1
    obtain ⟨n0, nl⟩ := (hk.blk q3).facts1
    obtain ⟨r0, rl⟩ := (hk.blk q4).facts1
    go_wp2_with (fail)
    refine ⟨by simp, .inl ⟨_, _, rfl, run_takeDeferred d9, ?_⟩⟩
    refine ⟨.tuple #[.slice none 0 0, .int .i64 (p : Nat), .int .i64 (e : Nat)], by simp [results, Tryd.results8, go_sem, m0, n0, r0], ?_, ?_⟩
    · exact h6.keepC hk (by have := HO.out.size; omega)
    · rw [HSC.out]
end Go.Proofs.YtghofiehkdhbeaaDoor
