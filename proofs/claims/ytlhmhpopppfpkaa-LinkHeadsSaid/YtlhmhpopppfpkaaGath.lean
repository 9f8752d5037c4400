/- What is on the links, gathered in two rows. -/
import Derived.Test.YtlhmhpopppfpkaaFactsR
import Derived.Test.YtlhmhpopppfpkaaPairs
import Derived.Test.YtlhmhpopppfpkaaNilN
import Derived.Test.YtlhmhpopppfpkaaRangeT
namespace Go.Proofs.Ytlhmhpopppfpkaa
open Go.RowKit Go.Kx
set_option maxRecDepth 20000

def cells2 (e : Pr) : List Value := [.int .i64 e.1, .int .i64 e.2]
def flat2 (L : List Pr) : List Value := L.flatMap cells2
theorem flat2_nil : flat2 [] = [] := rfl
theorem flat2_snoc (L : List Pr) (e : Pr) : flat2 (L ++ [e]) = flat2 L ++ cells2 e := by simp [flat2]
theorem flat2_append (L M : List Pr) : flat2 (L ++ M) = flat2 L ++ flat2 M := by simp [flat2]
theorem flat2_length : ∀ L : List Pr, (flat2 L).length = L.length * 2
  | [] => rfl
  | a :: L => by
    have : flat2 (a :: L) = cells2 a ++ flat2 L := rfl
    rw [this, List.length_append, flat2_length L, List.length_cons]
    simp [cells2]
    omega
theorem flat2_take : ∀ (L : List Pr) (n : Nat), (flat2 L).take (n * 2) = flat2 (L.take n)
  | [], n => by simp [flat2]
  | a :: L, 0 => by simp [flat2]
  | a :: L, n + 1 => by
    have e : (n + 1) * 2 = n * 2 + 1 + 1 := by omega
    show (cells2 a ++ flat2 L).take ((n + 1) * 2) = cells2 a ++ flat2 (L.take n)
    rw [e, ← flat2_take L n]
    rfl
theorem flat2_drop : ∀ (L : List Pr) (n : Nat), (flat2 L).drop (n * 2) = flat2 (L.drop n)
  | [], n => by simp [flat2]
  | a :: L, 0 => by simp
  | a :: L, n + 1 => by
    have e : (n + 1) * 2 = n * 2 + 1 + 1 := by omega
    show (cells2 a ++ flat2 L).drop ((n + 1) * 2) = flat2 (L.drop n)
    rw [e, ← flat2_drop L n]
    rfl
theorem flat2_at : ∀ (L : List Pr) (i : Nat) (e : Pr), L[i]? = some e → (flat2 L)[i * 2]? = some (.int .i64 e.1) ∧ (flat2 L)[i * 2 + 1]? = some (.int .i64 e.2)
  | [], i, s, h => by simp at h
  | a :: L, 0, s, h => by simp at h; subst h; simp [flat2, cells2]
  | a :: L, i + 1, s, h => by
    have := flat2_at L i s (by simpa using h)
    have e (j : Nat) : (flat2 (a :: L))[(i + 1) * 2 + j]? = (flat2 L)[i * 2 + j]? := by
      have : (i + 1) * 2 + j = i * 2 + j + 1 + 1 := by omega
      rw [this]
      rfl
    have e0 := e 0
    simp only [Nat.add_zero] at e0
    rw [e0, e 1]
    exact this
theorem flat2_one (L : List Pr) : ∀ u ∈ flat2 L, u.oneCell' = true := by
  intro u hu
  obtain ⟨e, _, he⟩ := List.mem_flatMap.1 hu
  simp [cells2] at he
  rcases he with rfl | rfl <;> rfl
theorem pr_info : ((Try.prog.info? 50).map fun i => (i.zero, i.size, i.bytes)) = some (some (.agg #[.int .i64 0, .int .i64 0]), 2, 16) := by kernel_rfl
theorem in_info : ((Try.prog.info? 3).map fun i => (i.zero, i.size, i.bytes)) = some (some (.int .i64 0), 1, 8) := by kernel_rfl
/-- the cells of an own row of entries -/
abbrev xsV (L : List It) : List Value := L.map fun e => .int .i64 e.2
abbrev psV (L : List It) : List Value := flat2 (L.map (·.1))
structure AL (B : Nat) (W : World) (ab lb : Nat) (acc : List It) (A1 : Option Addr) (c1 : Nat) (A2 : Option Addr) (c2 : Nat) : Prop where
  ba : Blk W ab 69 #[.slice A1 acc.length c1]
  bl : Blk W lb 70 #[.slice A2 acc.length c2]
  ra : W.ownsRow B 50 2 (.slice A1 acc.length c1) acc.length (psV acc)
  rl : W.ownsRow B 3 1 (.slice A2 acc.length c2) acc.length (xsV acc)
def alS (ab lb : Nat) (A1 A2 : Option Addr) : List Nat := ab :: lb :: ((A1.map (·.block)).toList ++ (A2.map (·.block)).toList)
theorem own_type {w : World} {base base' : Nat} {e e' : TypeId} {size size' n n' : Nat} {v v' : Value} {xs xs' : List Value} (h : w.ownsRow base e size v n xs) (h' : w.ownsRow base' e' size' v' n' xs') (hne : e ≠ e') {g : Nat} (hg : v.ownBlock = some g) : v'.ownBlock ≠ some g := fun hg' => by
  rcases h.2 with ⟨rfl, _⟩ | ⟨a, cap, cur, rfl, _, ha, _⟩
  · simp [Value.ownBlock] at hg
  · rcases h'.2 with ⟨rfl, _⟩ | ⟨b, cap', cur', rfl, _, hb, _⟩
    · simp [Value.ownBlock] at hg'
    · simp [Value.ownBlock] at hg hg'
      subst hg hg'
      rw [ha] at hb
      injection hb with hb
      injection hb with _ h2 _
      exact hne h2
theorem own_blk {w : World} {base : Nat} {e t : TypeId} {size n : Nat} {v : Value} {xs : List Value} {g : Nat} {cs : Array Value} (h : w.ownsRow base e size v n xs) (hb : Blk w g t cs) (hne : e ≠ t) : v.ownBlock ≠ some g := by
  rcases h.2 with ⟨rfl, _⟩ | ⟨g', cap, cur, rfl, _, hg, _⟩
  · simp [Value.ownBlock]
  · intro k
    simp [Value.ownBlock] at k
    subst k
    unfold Blk at hb
    rw [hg] at hb
    injection hb with hb
    injection hb with _ h2 _
    exact hne h2
theorem AL.keepC {B C : Nat} {W W' : World} {ab lb : Nat} {acc : List It} {A1 : Option Addr} {c1 : Nat} {A2 : Option Addr} {c2 : Nat} (h : AL B W ab lb acc A1 c1 A2 c2) (k : KeepC C W W') : AL B W' ab lb acc A1 c1 A2 c2 :=
  ⟨k.blk h.ba, k.blk h.bl, ownsRow_keepC k h.ra, ownsRow_keepC k h.rl⟩
theorem AL.lt {B : Nat} {W : World} {ab lb : Nat} {acc : List It} {A1 : Option Addr} {c1 : Nat} {A2 : Option Addr} {c2 : Nat} (h : AL B W ab lb acc A1 c1 A2 c2) : ∀ x ∈ alS ab lb A1 A2, x < W.heap.size := fun x hx => by
  simp [alS] at hx
  rcases hx with rfl | rfl | ⟨p, rfl, rfl⟩ | ⟨p, rfl, rfl⟩
  · exact h.ba.lt
  · exact h.bl.lt
  · exact (h.ra.lt _ rfl).2
  · exact (h.rl.lt _ rfl).2
theorem AL.ge {B : Nat} {W : World} {ab lb : Nat} {acc : List It} {A1 : Option Addr} {c1 : Nat} {A2 : Option Addr} {c2 : Nat} (h : AL B W ab lb acc A1 c1 A2 c2) : ∀ x ∈ alS ab lb A1 A2, x = ab ∨ x = lb ∨ B ≤ x := fun x hx => by
  simp [alS] at hx
  rcases hx with rfl | rfl | ⟨p, rfl, rfl⟩ | ⟨p, rfl, rfl⟩
  · exact .inl rfl
  · exact .inr (.inl rfl)
  · exact .inr (.inr (h.ra.lt _ rfl).1)
  · exact .inr (.inr (h.rl.lt _ rfl).1)
/-- one element of a new row -/
def SrcV (N : Nat) (t : TypeId) (cs : Array Value) (v : Value) (w : World) : Prop := ∃ s, v = .slice (some ⟨s, 0, none⟩) 1 1 ∧ Blk w s t cs ∧ N ≤ s
def rowR (A : Option Addr) (X : List Value) : List (Nat × List Value) := (A.map (·.block)).toList.map (·, X)
theorem rowR_mem {A : Option Addr} {X T : List Value} {k : Nat} (h : (k, T) ∈ rowR A X) : (∃ p, A = some p ∧ p.block = k) ∧ T = X := by
  cases A with
  | none => simp [rowR] at h
  | some p => simp [rowR] at h; exact ⟨⟨p, rfl, h.1.symm⟩, h.2⟩
theorem SrcV.tow {N : Nat} {t : TypeId} {cs : Array Value} {v : Value} {w w' : World} {A : Option Addr} {X : List Value} (h : SrcV N t cs v w) (o : Tow (rowR A X) w w') (hA : ∀ p, A = some p → p.block < N) : SrcV N t cs v w' := by
  obtain ⟨s, rfl, hb, hn⟩ := h
  exact ⟨s, rfl, o.blk hb (fun T hT => by obtain ⟨⟨p, hp, e⟩, _⟩ := rowR_mem hT; have := hA p hp; omega), hn⟩
def GotV (B N m : Nat) (A : Option Addr) (X : List Value) (v : Value) (w : World) : Prop := ∃ g cap, v = .slice (some ⟨g, 0, none⟩) (m + 1) cap ∧ w.ownsRow B 50 2 v (m + 1) X ∧ ((∃ p, A = some p ∧ p.block = g) ∨ N ≤ g)
theorem GotV.tow {B N m : Nat} {A : Option Addr} {X : List Value} {v : Value} {w w' : World} (h : GotV B N m A X v w) (o : Tow (rowR A X) w w') : GotV B N m A X v w' := by
  obtain ⟨g, cap, e, ho, hg⟩ := h
  exact ⟨g, cap, e, o.own ho (fun k T _ hT => by rw [(rowR_mem hT).2]; exact List.prefix_refl _), hg⟩
theorem psV_snoc (acc : List It) (e : It) : psV (acc ++ [e]) = psV acc ++ cells2 e.1 := by unfold psV; rw [List.map_append]; exact flat2_snoc _ _
theorem xsV_snoc (acc : List It) (e : It) : xsV (acc ++ [e]) = xsV acc ++ [.int .i64 e.2] := by simp [xsV]
/-- the first append -/
theorem got_append {B N m c1 : Nat} {A1 : Option Addr} {acc : List It} {p : Pr} {x : Int} {w : World} (ho : w.ownsRow B 50 2 (.slice A1 acc.length c1) acc.length (psV acc)) {sv : Value} (hs : SrcV N 50 #[.int .i64 p.1, .int .i64 p.2] sv w) (hB : B ≤ w.heap.size) (hN : N ≤ w.heap.size) (hlen : acc.length ≤ 100000000) (hm : acc.length = m) :
    ∃ v' w', (Builtin.append_ #[69, 69] 69 #[.slice A1 acc.length c1, sv]).run Try.prog w = .ok v' w' ∧ Tow (rowR A1 (psV (acc ++ [(p, x)]))) w w' ∧ GotV B N m A1 (psV (acc ++ [(p, x)])) v' w' := by
  obtain ⟨s, rfl, hb, hn⟩ := hs
  obtain ⟨f0, f1, -⟩ := hb.facts2
  obtain ⟨i, hi, h0, h1, h2⟩ := info_parts pr_info
  obtain ⟨v', w', hr, ho', ht, hat⟩ := run_append_tow (P := Try.prog) (w := w) B 69 69 50 i _ 2 16 Try.underlying69 hi h0 h1 h2 rfl (by omega) _ _ _ ho ⟨s, 0, none⟩ 1 1 (cells2 p) rfl
    (by intro j u hj
        match j, hj with
        | 0, hj => simp [cells2] at hj; subst hj; simpa [Addr.add] using f0
        | 1, hj => simp [cells2] at hj; subst hj; simpa [Addr.add] using f1)
    (by simp [cells2]; exact ⟨rfl, rfl⟩) (by unfold maxLen; omega) (by omega) hB
  rw [psV_snoc]
  refine ⟨v', w', hr, ?_, ?_⟩
  · cases A1 <;> exact ht
  · rcases ho'.2 with ⟨rfl, hn0⟩ | ⟨g, cap, cur, rfl, hrest⟩
    · omega
    · subst hm
      refine ⟨g, cap, rfl, ho', ?_⟩
      rcases hat with h | h
      · left
        cases A1 with
        | none => simp [Value.ownBlock] at h
        | some q => simp [Value.ownBlock] at h; exact ⟨q, rfl, h.symm⟩
      · right; simp [Value.ownBlock] at h; omega
/-- the second append -/
theorem got_append1 {B N c2 : Nat} {A2 : Option Addr} {acc : List It} {x : Int} {w : World} (ho : w.ownsRow B 3 1 (.slice A2 acc.length c2) acc.length (xsV acc)) {sv : Value} (hs : SrcV N 3 #[.int .i64 x] sv w) (hB : B ≤ w.heap.size) (hlen : acc.length ≤ 100000000) :
    ∃ g cap w', (Builtin.append_ #[70, 70] 70 #[.slice A2 acc.length c2, sv]).run Try.prog w = .ok (.slice (some ⟨g, 0, none⟩) (acc.length + 1) cap) w' ∧ w'.ownsRow B 3 1 (.slice (some ⟨g, 0, none⟩) (acc.length + 1) cap) (acc.length + 1) (xsV acc ++ [.int .i64 x]) ∧ Only (A2.map (·.block)).toList w w' ∧ ((∃ p, A2 = some p ∧ p.block = g) ∨ w.heap.size ≤ g) := by
  obtain ⟨s, rfl, hb, hn⟩ := hs
  obtain ⟨f0, -⟩ := hb.facts1
  obtain ⟨i, hi, h0, h1, h2⟩ := info_parts in_info
  obtain ⟨v', w', hr, ho', hg, _, hat⟩ := run_append_own_at (P := Try.prog) (w := w) B 70 70 3 i _ 1 8 Try.underlying70 hi h0 h1 h2 rfl (by omega) _ _ _ ho ⟨s, 0, none⟩ 1 1 [.int .i64 x] rfl
    (by intro j u hj
        match j, hj with
        | 0, hj => simp at hj; subst hj; simpa [Addr.add] using f0)
    (by simp [Value.oneCell']) (by unfold maxLen; omega) (by omega) hB
  rcases ho'.2 with ⟨rfl, hn0⟩ | ⟨g, cap, cur, rfl, hrest⟩
  · omega
  · refine ⟨g, cap, w', hr, ho', ?_, ?_⟩
    · have := Only.of_grownBy hg
      cases A2 <;> exact this
    · rcases hat with h | h
      · left
        cases A2 with
        | none => simp [Value.ownBlock] at h
        | some q => simp [Value.ownBlock] at h; exact ⟨q, rfl, h.symm⟩
      · right; simp [Value.ownBlock] at h; omega
theorem AL.mid {B : Nat} {w wd w7 : World} {ab lb : Nat} {acc : List It} {A1 : Option Addr} {c1 : Nat} {A2 : Option Addr} {c2 : Nat} {p : Pr} {x : Int} (h : AL B w ab lb acc A1 c1 A2 c2) (ht : Tow (rowR A1 (psV (acc ++ [(p, x)]))) w wd)
    (o7 : Only (A2.map (·.block)).toList wd w7) : Blk w7 ab 69 #[.slice A1 acc.length c1] ∧ Blk w7 lb 70 #[.slice A2 acc.length c2] ∧ wd.ownsRow B 3 1 (.slice A2 acc.length c2) acc.length (xsV acc) := by
  have nR : ∀ (b : Nat) (t : TypeId) (cs : Array Value), Blk w b t cs → t ≠ 50 → ∀ T, (b, T) ∉ rowR A1 (psV (acc ++ [(p, x)])) := fun b t cs hb hne T hT => by
    obtain ⟨⟨q, rfl, e⟩, _⟩ := rowR_mem hT
    exact own_blk h.ra hb (fun e => hne e.symm) (by rw [← e]; rfl)
  have ba := ht.blk h.ba (nR _ _ _ h.ba (by decide))
  have bl := ht.blk h.bl (nR _ _ _ h.bl (by decide))
  have rl := ht.own h.rl (fun k T hk hT => by
    obtain ⟨⟨q, rfl, e⟩, _⟩ := rowR_mem hT
    exact absurd hk (own_type h.ra h.rl (by decide) (by rw [← e]; rfl)))
  have mA2 : ∀ b, b ∈ (A2.map (·.block)).toList → (Value.slice A2 acc.length c2).ownBlock = some b := fun b hb => by
    cases A2 with
    | none => simp at hb
    | some q => simp at hb; rw [hb]; rfl
  have ba7 := o7.blk ba (fun hm => own_blk rl ba (by decide) (mA2 _ hm))
  have bl7 := o7.blk bl (fun hm => own_blk rl bl (by decide) (mA2 _ hm))
  exact ⟨ba7, bl7, rl⟩
theorem AL.step {B : Nat} {w wd w7 : World} {ab lb : Nat} {acc : List It} {A1 : Option Addr} {c1 : Nat} {A2 : Option Addr} {c2 : Nat} {p : Pr} {x : Int} (h : AL B w ab lb acc A1 c1 A2 c2) (hne : ab ≠ lb) (ht : Tow (rowR A1 (psV (acc ++ [(p, x)]))) w wd) {v3 : Value}
    (hg : GotV B w.heap.size acc.length A1 (psV (acc ++ [(p, x)])) v3 wd) {g cap : Nat} (ho : w7.ownsRow B 3 1 (.slice (some ⟨g, 0, none⟩) (acc.length + 1) cap) (acc.length + 1) (xsV acc ++ [.int .i64 x])) (o7 : Only (A2.map (·.block)).toList wd w7) (hgg : (∃ p, A2 = some p ∧ p.block = g) ∨ wd.heap.size ≤ g) :
    ∃ g1 cap1, v3 = .slice (some ⟨g1, 0, none⟩) (acc.length + 1) cap1 ∧ AL B ((w7.setCell ⟨ab, 0, none⟩ v3).setCell ⟨lb, 0, none⟩ (.slice (some ⟨g, 0, none⟩) (acc.length + 1) cap)) ab lb (acc ++ [(p, x)]) (some ⟨g1, 0, none⟩) cap1 (some ⟨g, 0, none⟩) cap ∧
      Only (alS ab lb A1 A2) w ((w7.setCell ⟨ab, 0, none⟩ v3).setCell ⟨lb, 0, none⟩ (.slice (some ⟨g, 0, none⟩) (acc.length + 1) cap)) ∧ ∀ y ∈ alS ab lb (some ⟨g1, 0, none⟩) (some ⟨g, 0, none⟩), y ∈ alS ab lb A1 A2 ∨ w.heap.size ≤ y := by
  obtain ⟨g1, cap1, rfl, ho1, hg1⟩ := hg
  have hsz := ht.size
  have nR : ∀ (b : Nat) (t : TypeId) (cs : Array Value), Blk w b t cs → t ≠ 50 → ∀ T, (b, T) ∉ rowR A1 (psV (acc ++ [(p, x)])) := fun b t cs hb hne T hT => by
    obtain ⟨⟨q, rfl, e⟩, _⟩ := rowR_mem hT
    exact own_blk h.ra hb (fun e => hne e.symm) (by rw [← e]; rfl)
  have ba := ht.blk h.ba (nR _ _ _ h.ba (by decide))
  have bl := ht.blk h.bl (nR _ _ _ h.bl (by decide))
  have rl := ht.own h.rl (fun k T hk hT => by
    obtain ⟨⟨q, rfl, e⟩, _⟩ := rowR_mem hT
    exact absurd hk (own_type h.ra h.rl (by decide) (by rw [← e]; rfl)))
  have mA2 : ∀ b, b ∈ (A2.map (·.block)).toList → (Value.slice A2 acc.length c2).ownBlock = some b := fun b hb => by
    cases A2 with
    | none => simp at hb
    | some q => simp at hb; rw [hb]; rfl
  have ba7 := o7.blk ba (fun hm => own_blk rl ba (by decide) (mA2 _ hm))
  have bl7 := o7.blk bl (fun hm => own_blk rl bl (by decide) (mA2 _ hm))
  have r17 := ownsRow_only o7 ho1 (fun b hb hm => own_type ho1 rl (by decide) hb (mA2 _ hm))
  have len : (acc ++ [(p, x)]).length = acc.length + 1 := by simp
  refine ⟨g1, cap1, rfl, ⟨?_, ?_, ?_, ?_⟩, ?_, ?_⟩
  · rw [len]
    exact (only_setCell _ _ _).blk (ba7.set_ 0 _) (by simp; exact hne)
  · rw [len]
    exact ((only_setCell _ _ _).blk bl7 (by simp; exact fun e => hne e.symm)).set_ 0 _
  · rw [len]
    refine ownsRow_only (only_setCell _ _ _) (ownsRow_only (only_setCell _ _ _) r17 (fun b hb hm => ?_)) (fun b hb hm => ?_)
    · simp at hm; exact own_blk r17 ba7 (by decide) (by rw [hb, hm])
    · simp at hm; exact own_blk r17 bl7 (by decide) (by rw [hb, hm])
  · rw [len, xsV_snoc]
    refine ownsRow_only (only_setCell _ _ _) (ownsRow_only (only_setCell _ _ _) ho (fun b hb hm => ?_)) (fun b hb hm => ?_)
    · simp at hm; exact own_blk ho ba7 (by decide) (by rw [hb, hm])
    · simp at hm; exact own_blk ho bl7 (by decide) (by rw [hb, hm])
  · have o1 : Only (alS ab lb A1 A2) w wd := ht.only.mono (fun y hy => .inl (by
      obtain ⟨⟨k, T⟩, hk, rfl⟩ := List.mem_map.1 hy
      obtain ⟨⟨q, rfl, e⟩, _⟩ := rowR_mem hk
      simp [alS, e]))
    have o2 : Only (alS ab lb A1 A2) wd w7 := o7.mono (fun y hy => .inl (by simp only [alS, List.mem_cons, List.mem_append]; exact .inr (.inr (.inr hy))))
    exact ((o1.trans o2 (fun _ h => .inl h)).setCell (.inl (by simp [alS])) _).setCell (.inl (by simp [alS])) _
  · intro y hy
    simp [alS] at hy
    rcases hy with rfl | rfl | rfl | rfl
    · left; simp [alS]
    · left; simp [alS]
    · rcases hg1 with ⟨q, rfl, rfl⟩ | h1
      · left; simp [alS]
      · exact .inr h1
    · rcases hgg with ⟨q, rfl, rfl⟩ | h1
      · left; simp [alS]
      · exact .inr (by omega)
theorem AL.only {B : Nat} {S : List Nat} {W W' : World} {ab lb : Nat} {acc : List It} {A1 : Option Addr} {c1 : Nat} {A2 : Option Addr} {c2 : Nat} (h : AL B W ab lb acc A1 c1 A2 c2) (o : Only S W W') (hS : ∀ x ∈ alS ab lb A1 A2, x ∉ S) : AL B W' ab lb acc A1 c1 A2 c2 :=
  ⟨o.blk h.ba (hS _ (by simp [alS])), o.blk h.bl (hS _ (by simp [alS])), ownsRow_only o h.ra (fun g hg => hS g (by cases A1 with | none => simp [Value.ownBlock] at hg | some q => simp [Value.ownBlock] at hg; simp [alS, hg])), ownsRow_only o h.rl (fun g hg => hS g (by cases A2 with | none => simp [Value.ownBlock] at hg | some q => simp [Value.ownBlock] at hg; simp [alS, hg]))⟩
theorem AL.at {B : Nat} {W : World} {ab lb : Nat} {acc : List It} {A1 : Option Addr} {c1 : Nat} {A2 : Option Addr} {c2 : Nat} (h : AL B W ab lb acc A1 c1 A2 c2) {i : Nat} {e : It} (hi : acc[i]? = some e) :
    ∃ b1 b2, A1 = some ⟨b1, 0, none⟩ ∧ A2 = some ⟨b2, 0, none⟩ ∧ W.cell? ⟨b1, i * 2, none⟩ = some (.int .i64 e.1.1) ∧ W.cell? ⟨b1, i * 2 + 1, none⟩ = some (.int .i64 e.1.2) ∧ W.cell? ⟨b2, i, none⟩ = some (.int .i64 e.2) := by
  have hil : i < acc.length := (List.getElem?_eq_some_iff.1 hi).1
  have f := flat2_at (acc.map (·.1)) i e.1 (by rw [List.getElem?_map, hi]; rfl)
  have fx : (xsV acc)[i]? = some (.int .i64 e.2) := by unfold xsV; rw [List.getElem?_map, hi]; rfl
  rcases h.ra.2 with ⟨_, h2⟩ | ⟨g1, k1, r1, e1, _⟩
  · omega
  · rcases h.rl.2 with ⟨_, h2⟩ | ⟨g2, k2, r2, e2, _⟩
    · omega
    · injection e1 with e1 _ _
      injection e2 with e2 _ _
      subst e1 e2
      have a := h.ra.cells (g := g1) rfl
      have b := h.rl.cells (g := g2) rfl
      refine ⟨g1, g2, rfl, rfl, ?_, ?_, ?_⟩
      · have := a _ _ f.1
        rwa [Addr.add_lit, Nat.zero_add] at this
      · have := a _ _ f.2
        rwa [Addr.add_lit, Nat.zero_add] at this
      · have := b _ _ fx
        rwa [Addr.add_lit, Nat.zero_add] at this
end Go.Proofs.Ytlhmhpopppfpkaa
