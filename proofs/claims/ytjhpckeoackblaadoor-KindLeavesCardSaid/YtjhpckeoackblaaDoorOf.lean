/- vars, of. -/
import Derived.Test.YtjhpckeoackblaaDoorNms
import Derived.Test.YtjhpckeoackblaaDoorFactsG
namespace Go.Proofs.YtjhpckeoackblaaDoor
open Go.RowKit Go.Kx
open Go.Val (Tt)
set_option maxRecDepth 100000
section
variable {α : Type} (cs : α → List Value) {K : Nat}
def flatG (L : List α) : List Value := L.flatMap cs
theorem flatG_app (L M : List α) : flatG cs (L ++ M) = flatG cs L ++ flatG cs M := by simp [flatG]
theorem flatG_len (hcs : ∀ a, (cs a).length = K) (L : List α) : (flatG cs L).length = L.length * K := by
  induction L with
  | nil => simp [flatG]
  | cons a l ih =>
    have : (l.flatMap cs).length = l.length * K := ih
    rw [flatG, List.flatMap_cons, List.length_append, hcs, List.length_cons, this, Nat.add_mul, Nat.one_mul, Nat.add_comm]
theorem flatG_one (h1 : ∀ a, ∀ u ∈ cs a, u.oneCell' = true) (L : List α) : ∀ u ∈ flatG cs L, u.oneCell' = true := by
  intro u hu
  obtain ⟨e, _, hu⟩ := List.mem_flatMap.1 hu
  exact h1 e u hu
theorem flatG_at (hcs : ∀ a, (cs a).length = K) : ∀ (L : List α) (i j : Nat) (e : α) (u : Value), L[i]? = some e → (cs e)[j]? = some u → (flatG cs L)[i * K + j]? = some u
  | [], i, j, e, u, h, _ => by simp at h
  | a :: L, 0, j, e, u, h, hu => by
    simp at h
    subst h
    rw [flatG, List.flatMap_cons, Nat.zero_mul, Nat.zero_add, List.getElem?_append_left (List.getElem?_eq_some_iff.1 hu).1]
    exact hu
  | a :: L, i + 1, j, e, u, h, hu => by
    have e1 : (i + 1) * K = i * K + K := by rw [Nat.add_mul, Nat.one_mul]
    rw [flatG, List.flatMap_cons, List.getElem?_append_right (by rw [hcs]; omega), hcs, show (i + 1) * K + j - K = i * K + j by omega]
    exact flatG_at hcs L i j e u (by simpa using h) hu
theorem own_cellG {TE : TypeId} {W : World} {B n c : Nat} {A : Option Addr} {xs : List Value} (h : W.ownsRow B TE K (.slice A n c) n xs) (hn : 0 < n) : ∃ g, A = some ⟨g, 0, none⟩ ∧ g < W.heap.size ∧ ∀ j u, xs[j]? = some u → W.cell? ⟨g, j, none⟩ = some u := by
  rcases h.2 with ⟨h1, h2⟩ | ⟨g, cap', cur, h1, hb, hg, hnc, hcm, hcs, hcur⟩
  · omega
  · injection h1 with hA _ _
    refine ⟨g, hA, Blk.lt (w := W) (t := TE) (cs := cur) hg, fun j u hj => ?_⟩
    rw [cell_of_row W g j cur TE (0, 0) hg]
    rw [← hcur] at hj
    have hlt2 := (List.getElem?_eq_some_iff.1 hj).1
    rw [List.getElem?_take_of_lt (by simp at hlt2; omega)] at hj
    simpa using hj
theorem row_of_ownG {TE : TypeId} (hcs : ∀ a, (cs a).length = K) {W : World} {B n c : Nat} {A : Option Addr} {L : List α} (h : W.ownsRow B TE K (.slice A n c) n (flatG cs L)) (hn : L.length = n) :
    ∀ i e, L[i]? = some e → ∃ b o, A = some ⟨b, o, none⟩ ∧ b < W.heap.size ∧ ∀ j v, (cs e)[j]? = some v → W.cell? ⟨b, o + i * K + j, none⟩ = some v := by
  intro i e hi
  have hlt := (List.getElem?_eq_some_iff.1 hi).1
  obtain ⟨g, rfl, hg, hc⟩ := own_cellG h (by omega)
  exact ⟨g, 0, rfl, hg, fun j v hv => by rw [Nat.zero_add]; exact hc _ _ (flatG_at cs hcs L i j e v hi hv)⟩
theorem run_appG {TS TE : TypeId} {zv : Value} {bytes : Nat} (hcs : ∀ a, (cs a).length = K) (h1 : ∀ a, ∀ u ∈ cs a, u.oneCell' = true) (hT : Tryd.prog.underlying TS = some (.slice TE)) (hinfo : ((Tryd.prog.info? TE).map fun i => (i.zero, i.size, i.bytes)) = some (some zv, K, bytes)) (hzs : zv.cells.size = K) (h0 : 0 < K) (hb64 : bytes ≤ 128)
    {w : World} {B n c z oz m cz : Nat} {A : Option Addr} {L M : List α} (h : w.ownsRow B TE K (.slice A n c) n (flatG cs L)) (hm : M.length = m) (hz : ∀ j u, (flatG cs M)[j]? = some u → w.cell? ⟨z, oz + j, none⟩ = some u) (hl : n + m ≤ 1048576) (hB : B ≤ w.heap.size) :
    ∃ A' c' w1, (Builtin.append_ #[TS, TS] TS #[.slice A n c, .slice (some ⟨z, oz, none⟩) m cz]).run Tryd.prog w = .ok (.slice A' (n + m) c') w1 ∧ w1.ownsRow B TE K (.slice A' (n + m) c') (n + m) (flatG cs (L ++ M)) ∧ Only (A.toList.map (·.block)) w w1 ∧
      (∀ p, A' = some p → (∃ q, A = some q ∧ q.block = p.block) ∨ w.heap.size ≤ p.block) := by
  subst hm
  obtain ⟨i, hi, h0', h1', h2⟩ := info_parts hinfo
  obtain ⟨v', w1, hr, ho, hg, hn, hat⟩ := run_append_own_at (P := Tryd.prog) w B TS TS TE i zv K bytes hT hi h0' h1' h2 hzs h0 _ n _ h ⟨z, oz, none⟩ M.length cz (flatG cs M) (flatG_len cs hcs M)
    (by intro j u hj; rw [Addr.add_lit]; exact hz j u hj) (flatG_one cs h1 M) (by unfold maxLen; omega) (Nat.le_trans (Nat.mul_le_mul hl hb64) (by omega)) hB
  rw [← flatG_app] at ho
  obtain ⟨A', c', rfl⟩ : ∃ A' c', v' = .slice A' (n + M.length) c' := by
    rcases ho.2 with ⟨rfl, h2⟩ | ⟨g, cap', cur, rfl, _⟩
    · exact ⟨none, 0, by rw [h2]⟩
    · exact ⟨_, _, rfl⟩
  refine ⟨A', c', w1, hr, ho, (Only.of_grownBy hg).mono (fun x hx => .inl (by
    cases A with
    | none => simp [Value.ownBlock] at hx
    | some p => simp [Value.ownBlock] at hx; simp [hx])), fun p hp => ?_⟩
  subst hp
  rcases hat with h | h
  · left
    cases A with
    | none => simp [Value.ownBlock] at h
    | some q => simp [Value.ownBlock] at h; exact ⟨q, rfl, h.symm⟩
  · right
    simp [Value.ownBlock] at h
    exact Nat.le_of_eq h.symm
end
end Go.Proofs.YtjhpckeoackblaaDoor
namespace Go.Proofs.YtjhpckeoackblaaDoor
open Go.RowKit Go.Kx
open Go.Val (Tt)
set_option maxRecDepth 100000
/-- a new row -/
structure RV (B : Nat) (w : World) (A : Option Addr) (l : List Vr) : Prop where
  row : RowVr w A l
  at_ : ∀ p, A = some p → B ≤ p.block
theorem RV.keep {B : Nat} {w w' : World} {A : Option Addr} {l : List Vr} (h : RV B w A l) (o : Only [] w w') : RV B w' A l := ⟨h.row.keep o, h.at_⟩
theorem RV.low {B B' : Nat} {w : World} {A : Option Addr} {l : List Vr} (h : RV B w A l) (hB : B' ≤ B) : RV B' w A l := ⟨h.row, fun p hp => Nat.le_trans hB (h.at_ p hp)⟩
theorem RowVr.onlyG {T : List Nat} {w w' : World} {A : Option Addr} {l : List Vr} (h : RowVr w A l) (o : Only T w w') (hA : ∀ (i : Nat) e, l[i]? = some e → ∀ p, A = some p → p.block ∉ T) (hb : ∀ e ∈ l, ∀ b ∈ e.t.bks, b ∉ T) : RowVr w' A l :=
  ⟨fun i e he => (h.row i e he).only o (hA i e he), fun e he => ⟨(h.sub e he).1.only o (fun b hbb hm => hb e he b hbb hm), (h.sub e he).2⟩, h.len⟩
theorem RowPr.onlyG {T : List Nat} {w w' : World} {A : Option Addr} {l : List Pr} (h : RowPr w A l) (o : Only T w w') (hA : ∀ (i : Nat) e, l[i]? = some e → ∀ p, A = some p → p.block ∉ T) (hb : ∀ e ∈ l, ∀ b ∈ e.t.bks, b ∉ T) : RowPr w' A l :=
  ⟨fun i e he => (h.row i e he).only o (hA i e he), fun e he => ⟨(h.sub e he).1.only o (fun b hbb hm => hb e he b hbb hm), (h.sub e he).2⟩, h.len⟩
theorem RowVr.low {w : World} {A : Option Addr} {l : List Vr} (h : RowVr w A l) : (∀ (i : Nat) e, l[i]? = some e → ∀ p, A = some p → p.block < w.heap.size) ∧ ∀ e ∈ l, ∀ b ∈ e.t.bks, b < w.heap.size :=
  ⟨fun i e he p hp => by obtain ⟨b, o, h1, h2, -⟩ := h.row i e he; rw [h1] at hp; injection hp with hp; subst hp; exact h2, fun e he => (h.sub e he).1.lt⟩
theorem RowPr.low {w : World} {A : Option Addr} {l : List Pr} (h : RowPr w A l) : (∀ (i : Nat) e, l[i]? = some e → ∀ p, A = some p → p.block < w.heap.size) ∧ ∀ e ∈ l, ∀ b ∈ e.t.bks, b < w.heap.size :=
  ⟨fun i e he p hp => by obtain ⟨b, o, h1, h2, -⟩ := h.row i e he; rw [h1] at hp; injection hp with hp; subst hp; exact h2, fun e he => (h.sub e he).1.lt⟩
theorem vcs_len (a : Vr) : a.cs.length = 4 := by cases a; rfl
theorem vcs_one (a : Vr) : ∀ u ∈ a.cs, u.oneCell' = true := by
  intro u hu
  cases a
  simp [Vr.cs] at hu
  rcases hu with rfl | rfl | rfl | rfl <;> rfl
theorem infoV54 : ((Tryd.prog.info? 54).map fun i => (i.zero, i.size, i.bytes)) = some (some (.agg #[.string ⟨#[]⟩, .string ⟨#[]⟩, .int .i64 0, .slice none 0 0]), 4, 64) := by kernel_rfl
set_option maxHeartbeats 8000000 in
theorem vars_any {A : Option Addr} {cap : Nat} {l : List Vr} {w : World} (hR : RowVr w A l) (hl : l.length ≤ 1000000) :
    Calls Tryd.prog 20 #[.slice A l.length cap] w fun r w' => ∃ A' c', r = .returned (.slice A' l.length c') ∧ RV w.heap.size w' A' l ∧ Only [] w w' := by
  have HR := Lib.hid hR
  obtain ⟨n, hn⟩ : ∃ n, l.length = n := ⟨_, rfl⟩
  have HN := Lib.hid hn
  rw [hn] at hl ⊢
  clear hR hn
  go_enter Tryd.func20, Tryd.ntmps20
  go_wp2_with (fail)
  go_loopw [3, 4] (fun v i wr => ∃ (k : Nat) (A' : Option Addr) (c' : Nat), v = .slice A' k c' ∧ i = .int .i64 k ∧ k ≤ n ∧ Hid (wr.ownsRow w.heap.size 54 4 (.slice A' k c') k (flatG Vr.cs (l.take k))) ∧ Hid (Only [] w wr)) (fun _ i _ => n - (intOf i).toNat)
  case atStart => exact ⟨0, none, 0, rfl, rfl, Nat.zero_le _, Lib.hid (World.ownsRow_nil _ _ _ _), Lib.hid (Only.refl _ _)⟩
  case round =>
    obtain ⟨k, A', c', rfl, rfl, hk, HOW, HOr⟩ := hrel
    by_cases hlt : k < n
    · obtain ⟨e, he⟩ : ∃ e, l[k]? = some e := ⟨_, List.getElem?_eq_getElem (by rw [HN.out]; exact hlt)⟩
      have HTK := Lib.hid (show l.take (k + 1) = l.take k ++ [e] by rw [List.take_add_one, he]; rfl)
      have hrow := (HR.out.row k _ he).keep HOr.out
      obtain ⟨xp, xs, xk, xA, xcap, xl⟩ := e
      obtain ⟨bb, o, rfl, hbb, c0, c1, c2, c3⟩ := hrow.cells
      have HC := Lib.hid (And.intro hbb (And.intro c0 (And.intro c1 (And.intro c2 c3))))
      have ik0 : (0 : Int) ≤ (k : Int) := by omega
      have ik1 : (k : Int) < (n : Int) := by omega
      clear he hrow c0 c1 c2 c3 hbb
      go_wp2_with (fail)
      refine (wpIn_wide (n := 9)).1 ?_
      refine wpIn_region_relR 18 (Only []) (fr := ?frv5) (tl := ?tlv5) (fun iq v wv => match iq with
        | 0 => v = (.slice A' k c')
        | 1 => v = .slice (some ⟨bb, o, none⟩) n cap
        | 2 => v = .int .i64 (k : Int)
        | 3 => v = .pointer (some ⟨bb, o + k * 4, none⟩)
        | 4 => v = .pointer (some ⟨bb, o + k * 4, none⟩)
        | 5 => v = .string xp
        | 6 => v = .slice (some ⟨bb, o, none⟩) n cap
        | 7 => v = .int .i64 (k : Int)
        | 8 => v = .pointer (some ⟨bb, o + k * 4, none⟩)
        | 9 => v = .pointer (some ⟨bb, o + k * 4 + 1, none⟩)
        | 10 => v = .string xs
        | 11 => v = .slice (some ⟨bb, o, none⟩) n cap
        | 12 => v = .int .i64 (k : Int)
        | 13 => v = .pointer (some ⟨bb, o + k * 4, none⟩)
        | 14 => v = .pointer (some ⟨bb, o + k * 4 + 2, none⟩)
        | 15 => v = .agg #[.int .i64 xk, .slice xA xl.length xcap]
        | 16 => v = .agg #[.string xp, .string xs, .int .i64 xk, .slice xA xl.length xcap]
        | 17 => ∃ z, v = .slice (some ⟨z, 0, none⟩) 1 1 ∧ Blk wv z 54 #[.string xp, .string xs, .int .i64 xk, .slice xA xl.length xcap]
        | _ => True) (.inl rfl) (by kernel_rfl) (by kernel_rfl) (by kernel_rfl) (by kernel_rfl) (by kernel_rfl) (by kernel_rfl) (by decide) ?htlv5 ?hfrv5 (Only.refl _ _) (fun _ _ _ h k => h.trans k (fun _ hx => .inl hx)) ?stabv5 ?stepsv5 ?donev5
      case htlv5 => simp only [List.drop_succ_cons, List.drop_zero]; rfl
      case hfrv5 => intro vals; simp only [putAll, dstAt, Act.put, List.getElem?_toArray, List.getElem?_cons_zero, List.getElem?_cons_succ, Option.bind_some, List.setIfInBounds_toArray, List.set_cons_zero, List.set_cons_succ]; rfl
      case stabv5 =>
        intro i v wa wb h
        try dsimp only
        split <;> first | exact id | (rintro ⟨z, h1, h2⟩; exact ⟨z, h1, h.blk h2 (by simp)⟩)
      case stepsv5 =>
        refine ⟨?_, ?_, ?_, ?_, ?_, ?_, ?_, ?_, ?_, ?_, ?_, ?_, ?_, ?_, ?_, ?_, ?_, ?_, trivial⟩
        · intro vals wr hR hp K hK
          dsimp only at hK ⊢
          clear hp
          unfold RunsOp
          go_simp
          exact hK.out _ _ ⟨_, rfl, Only.refl _ _, rfl⟩
        · intro vals wr hR hp K hK
          dsimp only at hK ⊢
          clear hp
          unfold RunsOp
          go_simp
          exact hK.out _ _ ⟨_, rfl, Only.refl _ _, rfl⟩
        · intro vals wr hR hp K hK
          dsimp only at hK ⊢
          clear hp
          unfold RunsOp
          go_simp
          exact hK.out _ _ ⟨_, rfl, Only.refl _ _, rfl⟩
        · intro vals wr hR hp K hK
          dsimp only at hK ⊢
          obtain ⟨p1, p2, -⟩ := hp
          replace p1 := p1 rfl
          replace p2 := p2 rfl
          dsimp only at p1 p2
          rw [p1, p2] at hK ⊢
          clear p1 p2
          unfold RunsOp
          go_simp
          exact hK.out _ _ ⟨_, rfl, Only.refl _ _, rfl⟩
        · intro vals wr hR hp K hK
          dsimp only at hK ⊢
          obtain ⟨p3, -⟩ := hp
          replace p3 := p3 rfl
          dsimp only at p3
          rw [p3] at hK ⊢
          clear p3
          unfold RunsOp
          go_simp
          exact hK.out _ _ ⟨_, rfl, Only.refl _ _, rfl⟩
        · intro vals wr hR hp K hK
          dsimp only at hK ⊢
          obtain ⟨p4, -⟩ := hp
          replace p4 := p4 rfl
          dsimp only at p4
          rw [p4] at hK ⊢
          clear p4
          unfold RunsOp
          have q0 := (hR.cell (p := ⟨bb, o + k * 4, none⟩) HC.out.1 (by simp)).trans HC.out.2.1
          go_simp
          exact hK.out _ _ ⟨_, rfl, Only.refl _ _, rfl⟩
        · intro vals wr hR hp K hK
          dsimp only at hK ⊢
          clear hp
          unfold RunsOp
          go_simp
          exact hK.out _ _ ⟨_, rfl, Only.refl _ _, rfl⟩
        · intro vals wr hR hp K hK
          dsimp only at hK ⊢
          clear hp
          unfold RunsOp
          go_simp
          exact hK.out _ _ ⟨_, rfl, Only.refl _ _, rfl⟩
        · intro vals wr hR hp K hK
          dsimp only at hK ⊢
          obtain ⟨p6, p7, -⟩ := hp
          replace p6 := p6 rfl
          replace p7 := p7 rfl
          dsimp only at p6 p7
          rw [p6, p7] at hK ⊢
          clear p6 p7
          unfold RunsOp
          go_simp
          exact hK.out _ _ ⟨_, rfl, Only.refl _ _, rfl⟩
        · intro vals wr hR hp K hK
          dsimp only at hK ⊢
          obtain ⟨p8, -⟩ := hp
          replace p8 := p8 rfl
          dsimp only at p8
          rw [p8] at hK ⊢
          clear p8
          unfold RunsOp
          go_simp
          exact hK.out _ _ ⟨_, rfl, Only.refl _ _, rfl⟩
        · intro vals wr hR hp K hK
          dsimp only at hK ⊢
          obtain ⟨p9, -⟩ := hp
          replace p9 := p9 rfl
          dsimp only at p9
          rw [p9] at hK ⊢
          clear p9
          unfold RunsOp
          have q1 := (hR.cell (p := ⟨bb, o + k * 4 + 1, none⟩) HC.out.1 (by simp)).trans HC.out.2.2.1
          go_simp
          exact hK.out _ _ ⟨_, rfl, Only.refl _ _, rfl⟩
        · intro vals wr hR hp K hK
          dsimp only at hK ⊢
          clear hp
          unfold RunsOp
          go_simp
          exact hK.out _ _ ⟨_, rfl, Only.refl _ _, rfl⟩
        · intro vals wr hR hp K hK
          dsimp only at hK ⊢
          clear hp
          unfold RunsOp
          go_simp
          exact hK.out _ _ ⟨_, rfl, Only.refl _ _, rfl⟩
        · intro vals wr hR hp K hK
          dsimp only at hK ⊢
          obtain ⟨p11, p12, -⟩ := hp
          replace p11 := p11 rfl
          replace p12 := p12 rfl
          dsimp only at p11 p12
          rw [p11, p12] at hK ⊢
          clear p11 p12
          unfold RunsOp
          go_simp
          exact hK.out _ _ ⟨_, rfl, Only.refl _ _, rfl⟩
        · intro vals wr hR hp K hK
          dsimp only at hK ⊢
          obtain ⟨p13, -⟩ := hp
          replace p13 := p13 rfl
          dsimp only at p13
          rw [p13] at hK ⊢
          clear p13
          unfold RunsOp
          go_simp
          exact hK.out _ _ ⟨_, rfl, Only.refl _ _, rfl⟩
        · intro vals wr hR hp K hK
          dsimp only at hK ⊢
          obtain ⟨p14, -⟩ := hp
          replace p14 := p14 rfl
          dsimp only at p14
          rw [p14] at hK ⊢
          clear p14
          unfold RunsOp
          have q2 := (hR.cell (p := ⟨bb, o + k * 4 + 2, none⟩) HC.out.1 (by simp)).trans HC.out.2.2.2.1
          have q3 := (hR.cell (p := ⟨bb, o + k * 4 + 3, none⟩) HC.out.1 (by simp)).trans HC.out.2.2.2.2
          go_simp
          exact hK.out _ _ ⟨_, rfl, Only.refl _ _, rfl⟩
        · intro vals wr hR hp K hK
          dsimp only at hK ⊢
          obtain ⟨p5, p10, p15, -⟩ := hp
          replace p5 := p5 rfl
          replace p10 := p10 rfl
          replace p15 := p15 rfl
          dsimp only at p5 p10 p15
          rw [p5, p10, p15] at hK ⊢
          clear p5 p10 p15
          unfold RunsOp
          go_simp
          exact hK.out _ _ ⟨_, rfl, Only.refl _ _, rfl⟩
        · intro vals wr hR hp K hK
          dsimp only at hK ⊢
          obtain ⟨p16, -⟩ := hp
          replace p16 := p16 rfl
          dsimp only at p16
          rw [p16] at hK ⊢
          clear p16
          unfold RunsOp
          have HH := Lib.hid (And.intro (show Only [] wr (wr.alloc (.cells #[.string xp, .string xs, .int .i64 xk, .slice xA xl.length xcap] 54)) from (Only.refl _ _).alloc _) (Blk.new wr 54 #[.string xp, .string xs, .int .i64 xk, .slice xA xl.length xcap]))
          go_simp
          exact hK.out _ _ ⟨_, rfl, HH.out.1, _, rfl, HH.out.2⟩
      case donev5 =>
        intro vals wd hR hF
        have f0 : vals 0 = (.slice A' k c') := hF 0 (by decide)
        have f1 : vals 1 = .slice (some ⟨bb, o, none⟩) n cap := hF 1 (by decide)
        have f2 : vals 2 = .int .i64 (k : Int) := hF 2 (by decide)
        have f3 : vals 3 = .pointer (some ⟨bb, o + k * 4, none⟩) := hF 3 (by decide)
        have f4 : vals 4 = .pointer (some ⟨bb, o + k * 4, none⟩) := hF 4 (by decide)
        have f5 : vals 5 = .string xp := hF 5 (by decide)
        have f6 : vals 6 = .slice (some ⟨bb, o, none⟩) n cap := hF 6 (by decide)
        have f7 : vals 7 = .int .i64 (k : Int) := hF 7 (by decide)
        have f8 : vals 8 = .pointer (some ⟨bb, o + k * 4, none⟩) := hF 8 (by decide)
        have f9 : vals 9 = .pointer (some ⟨bb, o + k * 4 + 1, none⟩) := hF 9 (by decide)
        have f10 : vals 10 = .string xs := hF 10 (by decide)
        have f11 : vals 11 = .slice (some ⟨bb, o, none⟩) n cap := hF 11 (by decide)
        have f12 : vals 12 = .int .i64 (k : Int) := hF 12 (by decide)
        have f13 : vals 13 = .pointer (some ⟨bb, o + k * 4, none⟩) := hF 13 (by decide)
        have f14 : vals 14 = .pointer (some ⟨bb, o + k * 4 + 2, none⟩) := hF 14 (by decide)
        have f15 : vals 15 = .agg #[.int .i64 xk, .slice xA xl.length xcap] := hF 15 (by decide)
        have f16 : vals 16 = .agg #[.string xp, .string xs, .int .i64 xk, .slice xA xl.length xcap] := hF 16 (by decide)
        rw [f0, f1, f2, f3, f4, f5, f6, f7, f8, f9, f10, f11, f12, f13, f14, f15, f16]
        clear f0 f1 f2 f3 f4 f5 f6 f7 f8 f9 f10 f11 f12 f13 f14 f15 f16
        obtain ⟨z, f17, hz⟩ := hF 17 (by decide)
        rw [f17]
        have HRl := Lib.hid ((Only.refl [] _).drew.trans hR (by simp))
        have HO2 := Lib.hid (HOr.out.trans HRl.out (by simp))
        have HOWd := Lib.hid (ownsRow_only HRl.out HOW.out (fun _ _ => by simp))
        obtain ⟨A5, c5, w5, hrun, ho5, oo5, hA5⟩ := run_appG Vr.cs (K := 4) (TS := 38) (TE := 54) vcs_len vcs_one Tryd.underlying38 infoV54 rfl (by omega) (by omega) (w := wd) (L := l.take k) (M := [.mk xp xs xk xA xcap xl]) (m := 1) (z := z) (oz := 0) (cz := 1) HOWd.out rfl (fun j u hj => by rw [Nat.zero_add, hz.cell]; simpa [flatG, Vr.cs] using hj) (by omega) HO2.out.size
        have HO5 := Lib.hid (HO2.out.trans oo5 (fun x hx => .inr (by
          cases A' with
          | none => simp at hx
          | some p => simp at hx; subst hx; exact (HOWd.out.lt p.block rfl).1)))
        have HOW5 := Lib.hid (show w5.ownsRow w.heap.size 54 4 (.slice A5 (k + 1) c5) (k + 1) (flatG Vr.cs (l.take (k + 1))) by rw [HTK.out]; exact ho5)
        clear hR hF f17 hz ho5 oo5 hA5
        gi_wp2_with (gi_at_builtin; refine wpListIn_append_run hrun rfl _ _ rfl rfl rfl rfl ?_)
        go_wp2_with (fail)
        go_roundw
        case rel => exact ⟨k + 1, A5, c5, rfl, by go_num, by omega, HOW5, HO5⟩
        case measure => simp [intOf] <;> omega
    · have hke : k = n := by omega
      have iz : ¬ (n : Int) < (n : Int) := by omega
      subst hke
      clear hlt hk
      go_wp2_with (fail)
      go_ret
      refine ⟨A', ⟨c', rfl⟩, ?_, HOr.out⟩
      have h := HOW.out
      rw [List.take_of_length_le (by rw [HN.out]; exact Nat.le_refl _)] at h
      exact ⟨⟨fun i e he => row_of_ownG Vr.cs vcs_len h HN.out i e he, fun e he => ⟨(HR.out.sub e he).1.keep HOr.out, (HR.out.sub e he).2⟩, HR.out.len⟩, fun p hp => by subst hp; exact (HOW.out.lt p.block rfl).1⟩
set_option maxHeartbeats 8000000 in
theorem of_any {A1 : Option Addr} {c1 : Nat} {vars : List Vr} {A2 : Option Addr} {c2 : Nat} {ports : List Pr} {bag : Bool} {A3 : Option Addr} {c3 : Nat} {of : List Vr} {w : World} (hv : vars.length ≤ 1000000) (ho : of.length ≤ 1000000) (hN : LiesN w A1 vars A2 ports A3 of) :
    Calls Tryd.prog 11 #[.agg #[.slice A1 vars.length c1, .slice A2 ports.length c2, .bool bag, .slice A3 of.length c3]] w fun r w' => ∃ A1' c1' A3' c3', r = .returned (.agg #[.slice A1' vars.length c1', .slice A2 ports.length c2, .bool bag, .slice A3' of.length c3']) ∧ LiesN w' A1' vars A2 ports A3' of ∧ (∀ p, A1' = some p → w.heap.size ≤ p.block) ∧ (∀ p, A3' = some p → w.heap.size ≤ p.block) ∧ Only [] w w' := by
  have CV := Lib.hid (fun W (o : Only [] w W) => vars_any (cap := c1) (hN.vars.keep o) hv)
  have CO := Lib.hid (fun W (o : Only [] w W) => vars_any (cap := c3) (hN.of.keep o) ho)
  have HP := Lib.hid hN.ports
  have HLW := Lib.hid hN.low
  have HPL := Lib.hid hN.ports.low.1
  obtain ⟨n1, hn1⟩ : ∃ n, vars.length = n := ⟨_, rfl⟩
  obtain ⟨n2, hn2⟩ : ∃ n, ports.length = n := ⟨_, rfl⟩
  obtain ⟨n3, hn3⟩ : ∃ n, of.length = n := ⟨_, rfl⟩
  rw [hn1] at CV
  rw [hn3] at CO
  rw [hn1, hn2, hn3]
  have h0 := Blk.new w 28 #[.slice A1 n1 c1, .slice A2 n2 c2, .bool bag, .slice A3 n3 c3]
  have h1 := Blk.new (w.alloc (.cells #[.slice A1 n1 c1, .slice A2 n2 c2, .bool bag, .slice A3 n3 c3] 28)) 40 #[.slice none 0 0, .slice none 0 0, .bool false, .slice none 0 0]
  simp only [World.size_alloc] at h1
  have HNB0 := Lib.hid (show Blk ((w.alloc (.cells #[.slice A1 n1 c1, .slice A2 n2 c2, .bool bag, .slice A3 n3 c3] 28)).alloc (.cells #[.slice none 0 0, .slice none 0 0, .bool false, .slice none 0 0] 40)) w.heap.size 28 #[.slice A1 n1 c1, .slice A2 n2 c2, .bool bag, .slice A3 n3 c3] from h0.alloc _)
  have HRB0 := Lib.hid h1
  have HO := Lib.hid (show Only [] w ((w.alloc (.cells #[.slice A1 n1 c1, .slice A2 n2 c2, .bool bag, .slice A3 n3 c3] 28)).alloc (.cells #[.slice none 0 0, .slice none 0 0, .bool false, .slice none 0 0] 40)) from ((Only.refl [] w).alloc _).alloc _)
  clear hv ho hN hn1 hn2 hn3 h0 h1
  go_enter Tryd.func11, Tryd.ntmps11
  go_wp2_with (fail)
  obtain ⟨wp, hwp⟩ : ∃ wp : World, (w.alloc (.cells #[.slice A1 n1 c1, .slice A2 n2 c2, .bool bag, .slice A3 n3 c3] 28)).alloc (.cells #[.slice none 0 0, .slice none 0 0, .bool false, .slice none 0 0] 40) = wp := ⟨_, rfl⟩
  rw [hwp] at HNB0 HRB0 HO ⊢
  clear hwp
  have HNB := HNB0
  replace CV := Lib.hid (fun W (o : Only [] wp W) => CV.out W (HO.out.trans o (by simp)))
  replace CO := Lib.hid (fun W (o : Only [] wp W) => CO.out W (HO.out.trans o (by simp)))
  refine (wpIn_wide (n := 9)).1 ?_
  refine wpIn_region_relR 11 (Only []) (fr := ?fro1) (tl := ?tlo1) (fun iq v wv => match iq with
    | 0 => v = .pointer (some ⟨w.heap.size, 0, none⟩)
    | 1 => v = .slice A1 n1 c1
    | 2 => ∃ A' c', v = .slice A' n1 c' ∧ RV (w.heap.size + 2) wv A' vars
    | 3 => v = .pointer (some ⟨w.heap.size, 1, none⟩)
    | 4 => v = .slice A2 n2 c2
    | 5 => v = .pointer (some ⟨w.heap.size, 2, none⟩)
    | 6 => v = .bool bag
    | 7 => v = .pointer (some ⟨w.heap.size, 3, none⟩)
    | 8 => v = .slice A3 n3 c3
    | 9 => ∃ A' c', v = .slice A' n3 c' ∧ RV (w.heap.size + 2) wv A' of
    | 10 => ∃ A' c' A'' c'', v = .agg #[.slice A' n1 c', .slice A2 n2 c2, .bool bag, .slice A'' n3 c''] ∧ RV (w.heap.size + 2) wv A' vars ∧ RV (w.heap.size + 2) wv A'' of
    | _ => True) (.inl rfl) (by kernel_rfl) (by kernel_rfl) (by kernel_rfl) (by kernel_rfl) (by kernel_rfl) (by kernel_rfl) (by decide) ?htlo1 ?hfro1 (Only.refl _ _) (fun _ _ _ h k => h.trans k (fun _ hx => .inl hx)) ?stabo1 ?stepso1 ?doneo1
  case htlo1 => simp only [List.drop_succ_cons, List.drop_zero]; rfl
  case hfro1 => intro vals; simp only [putAll, dstAt, Act.put, List.getElem?_toArray, List.getElem?_cons_zero, List.getElem?_cons_succ, Option.bind_some, List.setIfInBounds_toArray, List.set_cons_zero, List.set_cons_succ]; rfl
  case stabo1 =>
    intro i v wa wb h
    try dsimp only
    split <;> first | exact id | (rintro ⟨A', c', h1, h2⟩; exact ⟨A', c', h1, h2.keep h⟩) | (rintro ⟨A', c', A'', c'', h1, h2, h3⟩; exact ⟨A', c', A'', c'', h1, h2.keep h, h3.keep h⟩)
  case stepso1 =>
    refine ⟨?_, ?_, ?_, ?_, ?_, ?_, ?_, ?_, ?_, ?_, ?_, trivial⟩
    · intro vals wr hR hp K hK
      dsimp only at hK ⊢
      clear hp
      unfold RunsOp
      go_simp
      exact hK.out _ _ ⟨_, rfl, Only.refl _ _, rfl⟩
    · intro vals wr hR hp K hK
      dsimp only at hK ⊢
      obtain ⟨p0, -⟩ := hp
      replace p0 := p0 rfl
      dsimp only at p0
      rw [p0] at hK ⊢
      clear p0
      unfold RunsOp
      obtain ⟨m0, m1, m2, m3, ml⟩ := (hR.blk (Blk.drew HNB.out) (by simp)).facts4
      go_simp
      exact hK.out _ _ ⟨_, rfl, Only.refl _ _, rfl⟩
    · intro vals wr hR hp K hK
      dsimp only at hK ⊢
      obtain ⟨p1, -⟩ := hp
      replace p1 := p1 rfl
      dsimp only at p1
      rw [p1] at hK ⊢
      clear p1
      unfold RunsOp
      go_simp
      refine (CV.out _ ((Only.refl [] _).drew.trans hR (by simp))).mono ?_
      rintro e' w2 ⟨A', c', rfl, h1, o2⟩
      exact hK.out _ _ ⟨_, rfl, o2, A', c', rfl, h1.low (by have := HRB0.out.lt; have := hR.size; have := (show wp.drew.heap.size = wp.heap.size from rfl); omega)⟩
    · intro vals wr hR hp K hK
      dsimp only at hK ⊢
      clear hp
      unfold RunsOp
      go_simp
      exact hK.out _ _ ⟨_, rfl, Only.refl _ _, rfl⟩
    · intro vals wr hR hp K hK
      dsimp only at hK ⊢
      obtain ⟨p3, -⟩ := hp
      replace p3 := p3 rfl
      dsimp only at p3
      rw [p3] at hK ⊢
      clear p3
      unfold RunsOp
      obtain ⟨m0, m1, m2, m3, ml⟩ := (hR.blk (Blk.drew HNB.out) (by simp)).facts4
      go_simp
      exact hK.out _ _ ⟨_, rfl, Only.refl _ _, rfl⟩
    · intro vals wr hR hp K hK
      dsimp only at hK ⊢
      clear hp
      unfold RunsOp
      go_simp
      exact hK.out _ _ ⟨_, rfl, Only.refl _ _, rfl⟩
    · intro vals wr hR hp K hK
      dsimp only at hK ⊢
      obtain ⟨p5, -⟩ := hp
      replace p5 := p5 rfl
      dsimp only at p5
      rw [p5] at hK ⊢
      clear p5
      unfold RunsOp
      obtain ⟨m0, m1, m2, m3, ml⟩ := (hR.blk (Blk.drew HNB.out) (by simp)).facts4
      go_simp
      exact hK.out _ _ ⟨_, rfl, Only.refl _ _, rfl⟩
    · intro vals wr hR hp K hK
      dsimp only at hK ⊢
      clear hp
      unfold RunsOp
      go_simp
      exact hK.out _ _ ⟨_, rfl, Only.refl _ _, rfl⟩
    · intro vals wr hR hp K hK
      dsimp only at hK ⊢
      obtain ⟨p7, -⟩ := hp
      replace p7 := p7 rfl
      dsimp only at p7
      rw [p7] at hK ⊢
      clear p7
      unfold RunsOp
      obtain ⟨m0, m1, m2, m3, ml⟩ := (hR.blk (Blk.drew HNB.out) (by simp)).facts4
      go_simp
      exact hK.out _ _ ⟨_, rfl, Only.refl _ _, rfl⟩
    · intro vals wr hR hp K hK
      dsimp only at hK ⊢
      obtain ⟨p8, -, -⟩ := hp
      replace p8 := p8 rfl
      dsimp only at p8
      rw [p8] at hK ⊢
      clear p8
      unfold RunsOp
      go_simp
      refine (CO.out _ ((Only.refl [] _).drew.trans hR (by simp))).mono ?_
      rintro e' w2 ⟨A', c', rfl, h1, o2⟩
      exact hK.out _ _ ⟨_, rfl, o2, A', c', rfl, h1.low (by have := HRB0.out.lt; have := hR.size; have := (show wp.drew.heap.size = wp.heap.size from rfl); omega)⟩
    · intro vals wr hR hp K hK
      dsimp only at hK ⊢
      obtain ⟨p2, p4, p6, p9, -⟩ := hp
      replace p2 := p2 rfl
      replace p4 := p4 rfl
      replace p6 := p6 rfl
      replace p9 := p9 rfl
      dsimp only at p2 p4 p6 p9
      obtain ⟨A2', c2', e2, h2⟩ := p2
      obtain ⟨A9', c9', e9, h9⟩ := p9
      rw [e2, p4, p6, e9] at hK ⊢
      clear e2 p4 p6 e9
      unfold RunsOp
      have HH := Lib.hid (And.intro h2 h9)
      clear h2 h9
      go_simp
      exact hK.out _ _ ⟨_, rfl, Only.refl _ _, _, _, _, _, rfl, HH.out.1, HH.out.2⟩
  case doneo1 =>
    intro vals wd hR hF
    obtain ⟨A', c', A'', c'', f10, h1, h3⟩ := hF 10 (by decide)
    rw [f10]
    have HW := Lib.hid ((Only.refl [] _).drew.trans hR (by simp))
    have HH := Lib.hid (And.intro h1 h3)
    have HR1 := Lib.hid (HW.out.blk HRB0.out (by simp))
    clear hR hF f10 h1 h3
    obtain ⟨r0, r1, r2, r3, rl⟩ := HR1.out.facts4
    have g0 := HR1.out.frozen 0
    have g1 := HR1.out.frozen 1
    have g2 := HR1.out.frozen 2
    have g3 := HR1.out.frozen 3
    gi_wp2_with (fail)
    go_wp2_with (fail)
    have hb5 := ((((HR1.out.set_ 0 (.slice A' n1 c')).set_ 1 (.slice A2 n2 c2)).set_ 2 (.bool bag)).set_ 3 (.slice A'' n3 c''))
    obtain ⟨e0, e1, e2, e3, -⟩ := Blk.facts4 (a := .slice A' n1 c') (b := .slice A2 n2 c2) (c := .bool bag) (d := (.slice A'' n3 c'')) hb5
    refine bodyPost_ret (v := .agg #[.slice A' n1 c', .slice A2 n2 c2, .bool bag, (.slice A'' n3 c'')]) (by simp [results, Tryd.results11, go_sem, e0, e1, e2, e3]) rfl ?_
    clear e0 e1 e2 e3 hb5
    have o7 := ((((Only.refl [w.heap.size + 1] wd).setCell (p := ⟨w.heap.size + 1, 0, none⟩) (.inl (by simp)) (.slice A' n1 c')).setCell (p := ⟨w.heap.size + 1, 1, none⟩) (.inl (by simp)) (.slice A2 n2 c2)).setCell (p := ⟨w.heap.size + 1, 2, none⟩) (.inl (by simp)) (.bool bag)).setCell (p := ⟨w.heap.size + 1, 3, none⟩) (.inl (by simp)) (.slice A'' n3 c'')
    have hlt := HRB0.out.lt
    exact ⟨A', c', A'', c'', rfl, ⟨HH.out.1.row.onlyG o7 (fun i e he p hp => by have := HH.out.1.at_ p hp; simp; omega) (fun e he b hb => by have := HLW.out.vars e he b hb; simp; omega), ((HP.out.keep (HO.out.trans HW.out (by simp))).onlyG o7 (fun i e he p hp => by have := HPL.out i e he p hp; simp; omega) (fun e he b hb => by have := HLW.out.ports e he b hb; simp; omega)), HH.out.2.row.onlyG o7 (fun i e he p hp => by have := HH.out.2.at_ p hp; simp; omega) (fun e he b hb => by have := HLW.out.of e he b hb; simp; omega)⟩, (fun p hp => by have := HH.out.1.at_ p hp; omega), (fun p hp => by have := HH.out.2.at_ p hp; omega), (HO.out.trans HW.out (by simp)).trans o7 (fun b hb => .inr (by simp at hb; omega))⟩
end Go.Proofs.YtjhpckeoackblaaDoor
