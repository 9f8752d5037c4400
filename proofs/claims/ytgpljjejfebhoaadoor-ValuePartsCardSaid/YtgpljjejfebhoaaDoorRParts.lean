/- Walk, the document's. -/
import Derived.Test.YtgpljjejfebhoaaDoorParts
import Derived.Maps.AppendAt
namespace Go.Proofs.YtgpljjejfebhoaaDoor
open Go.RowKit Go.Kx Go.Val
set_option maxRecDepth 100000

/-- an expression, and all within it, where they lie -/
def Vx.all : Vx → List Vx
  | .mk op n nm A cap args => .mk op n nm A cap args :: (args.map Vx.all).flatten
theorem exall_tr : ∀ e : Vx, e.all.map Vx.tr = e.tr.all := by
  refine Vx.ind (fun e ih => ?_)
  obtain ⟨op, n, nm, A, cap, args⟩ := e
  rw [all_mk, Vx.all, List.map_cons]
  congr 1
  rw [List.map_flatten, List.map_map]
  congr 1
  exact List.map_congr_left fun a ha => ih a (by simpa [Vx.l] using ha)
theorem exall_lies {w : World} : ∀ e : Vx, LiesV w e → ∀ x ∈ e.all, LiesV w x := by
  refine Vx.ind (fun e ih => ?_)
  intro hL x hx
  obtain ⟨op, n, nm, A, cap, args⟩ := e
  rw [Vx.all] at hx
  rcases List.mem_cons.1 hx with rfl | hx
  · exact hL
  · obtain ⟨l, hl, hxl⟩ := List.mem_flatten.1 hx
    obtain ⟨a, ha, rfl⟩ := List.mem_map.1 hl
    exact ih a (by simpa [Vx.l] using ha) (hL.inv.2.2.2 a ha) x hxl
def flat4 (L : List Vx) : List Value := L.flatMap Vx.cs
theorem flat4_app (L M : List Vx) : flat4 (L ++ M) = flat4 L ++ flat4 M := by simp [flat4]
theorem cs_len (e : Vx) : e.cs.length = 4 := by cases e; rfl
theorem flat4_len (L : List Vx) : (flat4 L).length = L.length * 4 := by
  induction L with
  | nil => rfl
  | cons a l ih => rw [flat4, List.flatMap_cons, List.length_append, cs_len, List.length_cons]; have : (l.flatMap Vx.cs).length = l.length * 4 := ih; omega
theorem flat4_one (L : List Vx) : ∀ u ∈ flat4 L, u.oneCell' = true := by
  intro u hu
  obtain ⟨e, _, hu⟩ := List.mem_flatMap.1 hu
  cases e
  simp [Vx.cs] at hu
  rcases hu with rfl | rfl | rfl | rfl <;> rfl
def exTo (e0 : Vx) (args : List Vx) (k : Nat) : List Vx := e0 :: ((args.take k).map Vx.all).flatten
theorem exTo_succ {e0 : Vx} {args : List Vx} {k : Nat} {e : Vx} (h : args[k]? = some e) : exTo e0 args (k + 1) = exTo e0 args k ++ e.all := by
  unfold exTo
  rw [List.take_add_one, h, List.map_append, List.flatten_append]
  simp
theorem exTo_le (e0 : Vx) (args : List Vx) (k : Nat) : (exTo e0 args k).length ≤ (exTo e0 args args.length).length := by
  unfold exTo
  rw [List.take_length]
  conv => rhs; rw [← List.take_append_drop k args]
  rw [List.map_append, List.flatten_append]
  simp
theorem own_cellW {W : World} {B n c : Nat} {A : Option Addr} {xs : List Value} (h : W.ownsRow B 34 4 (.slice A n c) n xs) (hn : 0 < n) : ∃ g, A = some ⟨g, 0, none⟩ ∧ ∀ j u, xs[j]? = some u → W.cell? ⟨g, j, none⟩ = some u := by
  rcases h.2 with ⟨h1, h2⟩ | ⟨g, cap', cur, h1, hb, hg, hnc, hcm, hcs, hcur⟩
  · omega
  · injection h1 with hA _ _
    refine ⟨g, hA, fun j u hj => ?_⟩
    rw [cell_of_row W g j cur 34 (0, 0) hg]
    rw [← hcur] at hj
    have hlt2 := (List.getElem?_eq_some_iff.1 hj).1
    rw [List.getElem?_take_of_lt (by simp at hlt2; omega)] at hj
    simpa using hj
set_option maxHeartbeats 4000000 in
theorem rparts_any : ∀ (e : Vx) (w : World), LiesV w e → e.all.length ≤ 1048576 →
    Calls Tryd.prog 28 #[e.val] w fun r w' => ∃ A c, r = .returned (.slice A e.all.length c) ∧ w'.ownsRow w.heap.size 34 4 (.slice A e.all.length c) e.all.length (flat4 e.all) ∧ Only [] w w' := by
  refine Vx.ind (fun e ih => ?_)
  intro w hL hlen
  have he0 : e.cs = flat4 [e] := by simp [flat4]
  obtain ⟨op, n, nm, A, cap, args⟩ := e
  obtain ⟨-, hal, hrow, hsub⟩ := hL.inv
  have eall : (Vx.mk op n nm A cap args).all = exTo (.mk op n nm A cap args) args args.length := by
    rw [Vx.all]; unfold exTo; rw [List.take_length]
  rw [eall] at hlen ⊢
  obtain ⟨e0, hE⟩ : ∃ e0, Vx.mk op n nm A cap args = e0 := ⟨_, rfl⟩
  rw [hE] at hlen he0
  have HLEN := Lib.hid (fun k => Nat.le_trans (exTo_le e0 args k) hlen)
  have HR := Lib.hid hrow
  have HS := Lib.hid hsub
  have HI := Lib.hid ih
  have hbx := Blk.new w 34 #[.int .i64 op, .int .i64 n, .string nm, .slice A args.length cap]
  have o0 : Only [] w (w.alloc (.cells #[.int .i64 op, .int .i64 n, .string nm, .slice A args.length cap] 34)) := (Only.refl _ _).alloc _
  have hs1 : (w.alloc (.cells #[.int .i64 op, .int .i64 n, .string nm, .slice A args.length cap] 34)).heap.size = w.heap.size + 1 := by simp
  have hby := Blk.new (w.alloc (.cells #[.int .i64 op, .int .i64 n, .string nm, .slice A args.length cap] 34)) 34 #[.int .i64 op, .int .i64 n, .string nm, .slice A args.length cap]
  rw [hs1] at hby
  have o1 : Only [] (w.alloc (.cells #[.int .i64 op, .int .i64 n, .string nm, .slice A args.length cap] 34)) ((w.alloc (.cells #[.int .i64 op, .int .i64 n, .string nm, .slice A args.length cap] 34)).alloc (.cells #[.int .i64 op, .int .i64 n, .string nm, .slice A args.length cap] 34)) := (Only.refl _ _).alloc _
  have HBX := Lib.hid (o1.blk hbx (by simp))
  have HBY := Lib.hid hby
  have HO := Lib.hid (o0.trans o1 (by simp))
  have HE := Lib.hid hE
  have HE0 := Lib.hid he0
  obtain ⟨b0, b1, b2, b3, bl⟩ := hbx.facts4
  clear hL hlen hrow hsub ih hby o0 o1 hs1 eall he0 hbx
  show Calls Tryd.prog 28 #[.agg #[.int .i64 op, .int .i64 n, .string nm, .slice A args.length cap]] w _
  rw [hE]
  clear hE
  go_enter Tryd.func28, Tryd.ntmps28
  go_wp2_with (fail)
  generalize hw1 : (w.alloc (.cells #[.int .i64 op, .int .i64 n, .string nm, .slice A args.length cap] 34)).alloc (.cells #[.int .i64 op, .int .i64 n, .string nm, .slice A args.length cap] 34) = w1 at *
  have hown : w1.ownsRow w.heap.size 34 4 (.slice (some ⟨w.heap.size + 1, 0, none⟩) 1 1) 1 (flat4 (exTo e0 args 0)) := by
    have e1 : flat4 (exTo e0 args 0) = [.int .i64 op, .int .i64 n, .string nm, .slice A args.length cap] := by
      show flat4 [e0] = _
      rw [← HE0.out, ← HE.out]
      rfl
    rw [e1]
    exact ⟨rfl, .inr ⟨w.heap.size + 1, 1, _, rfl, by omega, HBY.out, Nat.le_refl _, by unfold maxLen; omega, rfl, rfl⟩⟩
  have HOWN := Lib.hid hown
  clear hown hw1
  go_loopw [3, 4] (fun v i wr => ∃ (k : Nat) (A2 : Option Addr) (c2 : Nat), i = .int .i64 k ∧ v = .slice A2 (exTo e0 args k).length c2 ∧ k ≤ args.length ∧ wr.ownsRow w.heap.size 34 4 (.slice A2 (exTo e0 args k).length c2) (exTo e0 args k).length (flat4 (exTo e0 args k)) ∧ Only [] w wr ∧ Blk wr w.heap.size 34 #[.int .i64 op, .int .i64 n, .string nm, .slice A args.length cap] ∧ (∀ p, A2 = some p → p.block ≠ w.heap.size)) (fun _ i _ => args.length - (intOf i).toNat)
  case atStart => exact ⟨0, _, _, rfl, rfl, Nat.zero_le _, HOWN.out, HO.out, HBX.out, fun p hp => by injection hp with hp; subst hp; simp⟩
  case round =>
    obtain ⟨k, A2, c2, rfl, rfl, hk, how, hO, hB, hne⟩ := hrel
    have HOW := Lib.hid how
    have HOr := Lib.hid hO
    have HBr := Lib.hid hB
    have HNE := Lib.hid hne
    obtain ⟨b0, b1, b2, b3, bl⟩ := hB.facts4
    clear how hO hB hne
    by_cases hlt : k < args.length
    · obtain ⟨e, he⟩ : ∃ e, args[k]? = some e := ⟨_, List.getElem?_eq_getElem hlt⟩
      have hmem : e ∈ args := List.mem_of_getElem? he
      have HSU := Lib.hid (exTo_succ (e0 := e0) he)
      have hle1 := HLEN.out (k + 1)
      rw [HSU.out, List.length_append] at hle1
      have hcall := HI.out e (by simpa [Vx.l] using hmem) wr ((HS.out e hmem).keep HOr.out) (by omega)
      have hra := (HR.out k _ he).only HOr.out (by simp)
      have hpos : 0 < e.all.length := by cases e; rw [Vx.all]; simp
      obtain ⟨M, hM⟩ : ∃ M, e.all = M := ⟨_, rfl⟩
      rw [hM] at hcall HSU hle1 hpos
      obtain ⟨xop, xn, xnm, xA, xcap, xargs⟩ := e
      obtain ⟨b, o, rfl, hb, c0, c1, c2', c3⟩ := hra.cells
      have HCA := Lib.hid (show Calls Tryd.prog 28 #[.agg #[.int .i64 xop, .int .i64 xn, .string xnm, .slice xA xargs.length xcap]] wr fun r w' => ∃ A c, r = .returned (.slice A M.length c) ∧ w'.ownsRow wr.heap.size 34 4 (.slice A M.length c) M.length (flat4 M) ∧ Only [] wr w' from hcall)
      have HP := Lib.hid hpos
      have HL1 := Lib.hid hle1
      clear he hmem hcall hra hM hpos hle1
      go_wp2_with (fail)
      refine HCA.out.mono ?_
      rintro r w4 ⟨A4, c4', rfl, how4, o4⟩
      obtain ⟨g4, rfl, hc4⟩ := own_cellW how4 HP.out
      obtain ⟨i24, hi, h0, h1, h2⟩ := info_parts infoV
      obtain ⟨v5, w5, hrun, ho5, hg5, hn5, hat5⟩ := run_append_own_at (P := Tryd.prog) w4 w.heap.size 32 32 34 i24 zV 4 56 Tryd.underlying32 hi h0 h1 h2 rfl (by omega) _ _ _ (ownsRow_only o4 HOW.out (fun _ _ => by simp)) ⟨g4, 0, none⟩ M.length c4' (flat4 M) (flat4_len M)
        (by intro j u hj; rw [Addr.add_lit, Nat.zero_add]; exact hc4 j u hj) (flat4_one M) (by have := HL1.out; unfold maxLen; omega) (by have := HL1.out; omega) (by have := HOr.out.size; have := o4.size; omega)
      have hlen5 : (exTo e0 args (k + 1)).length = (exTo e0 args k).length + M.length := by rw [HSU.out, List.length_append]
      have hfl5 : flat4 (exTo e0 args (k + 1)) = flat4 (exTo e0 args k) ++ flat4 M := by rw [HSU.out, flat4_app]
      rw [← hlen5, ← hfl5] at ho5
      obtain ⟨A5, c5, rfl⟩ : ∃ A5 c5, v5 = .slice A5 (exTo e0 args (k + 1)).length c5 := by
        rcases ho5.2 with ⟨rfl, h2⟩ | ⟨g, cap', cur, rfl, _⟩
        · exact ⟨none, 0, by rw [h2]⟩
        · exact ⟨_, _, rfl⟩
      have oown : Only (A2.toList.map (·.block)) w4 w5 := (Only.of_grownBy hg5).mono (fun x hx => .inl (by
        cases A2 with
        | none => simp [Value.ownBlock] at hx
        | some p => simp [Value.ownBlock] at hx; simp [hx]))
      have B5 := Lib.hid (oown.blk (o4.blk HBr.out (by simp)) (fun hm => by
        cases A2 with
        | none => simp at hm
        | some p => simp at hm; exact HNE.out p rfl hm.symm))
      have N5 := Lib.hid (show ∀ p, A5 = some p → p.block ≠ w.heap.size from fun p hp => by
        subst hp
        rcases hat5 with h | h
        · cases A2 with
          | none => simp [Value.ownBlock] at h
          | some q => simp [Value.ownBlock] at h; rw [h]; exact HNE.out q rfl
        · simp [Value.ownBlock] at h
          have := bl
          have := o4.size
          omega)
      have O5 := Lib.hid (show Only [] w w5 from (HOr.out.trans o4 (by simp)).trans oown (fun b hb => by
        cases A2 with
        | none => simp at hb
        | some p => simp at hb; subst hb; exact .inr (HOW.out.lt p.block rfl).1))
      have HO5 := Lib.hid ho5
      have HLN := Lib.hid hlen5
      clear ho5 hg5 hn5 hat5 how4 hc4 oown hlen5 hfl5 hi h0 h1 h2 o4 HCA b0 b1 b2 b3 bl c0 c1 c2' c3
      go_wp2_with (at_builtin; refine wpList_append_run hrun rfl _ _ rfl rfl rfl rfl ?_)
      go_roundw
      case rel => exact ⟨k + 1, A5, c5, by go_num, rfl, by omega, HO5.out, O5.out, B5.out, N5.out⟩
      case measure => simp [intOf]; omega
    · obtain rfl : k = args.length := by omega
      go_wp2_with (fail)
      go_ret
      exact ⟨A2, c2, rfl, HOW.out, HOr.out⟩
end Go.Proofs.YtgpljjejfebhoaaDoor
