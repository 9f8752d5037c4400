/- All of a heap, as it is handed out. -/
import Derived.Test.YtodiemichniehaaCollect
import Derived.Deep.RegionHeld3
namespace Go.Proofs.Ytodiemichniehaa
open Go.RowKit Go.Kx
attribute [local go_sem] Oper.semAt_some
set_option maxRecDepth 100000

theorem clone_any {B : Nat} {w : World} {A : Option Addr} {n c : Nat} {M : List Ent} (hM : w.ownsRow B 40 2 (.slice A n c) n (flat2 M)) (hn : M.length = n) (h20 : n ≤ 1048576) :
    Calls Try.prog 34 #[.slice A n c] w fun e w' => ∃ A' c', e = .returned (.slice A' n c') ∧ w'.ownsRow w.heap.size 40 2 (.slice A' n c') n (flat2 M) ∧ Only [] w w' := by
  cases A with
  | none =>
    have hm : M = [] := by
      cases M with
      | nil => rfl
      | cons e r => obtain ⟨b, h, _⟩ := own_cell hn.symm hM (i := 0) rfl; cases h
    subst hm
    simp at hn
    subst hn
    clear hM h20
    have hE : ∀ W, (binOp .eql 51 (.slice none 0 c) (.slice none 0 0)).run Try.prog W = .ok (.bool true) W := fun W => Lib.run_eql_slice_nil W 51 40 none 0 c 0 0 Try.underlying51
    go_enter Try.func34, Try.ntmps34
    go_wp2_with (fail)
    go_ret
    exact ⟨none, 0, rfl, World.ownsRow_nil _ _ _ _, Only.refl _ _⟩
  | some p =>
    obtain ⟨i40, hi40, hz40, hsz40, hby40⟩ := info_parts en_info
    have hown0 : (w.alloc (.cells #[] 40)).ownsRow w.heap.size 40 2 (.slice (some ⟨w.heap.size, 0, none⟩) 0 0) 0 [] :=
      ⟨rfl, .inr ⟨w.heap.size, 0, #[], rfl, Nat.le_refl _, Blk.new _ _ _, Nat.le_refl _, by simp [maxLen], rfl, rfl⟩⟩
    have hcell : ∀ j u, (flat2 M)[j]? = some u → (w.alloc (.cells #[] 40)).cell? (p.add j) = some u := by
      intro j u hu
      rcases hM.2 with ⟨h1, _⟩ | ⟨g, cap', cur, h1, hb, hg, _, _, _, hcur⟩
      · cases h1
      · injection h1 with hA _ _
        injection hA with hA
        subst hA
        have hlt : g < w.heap.size := (Array.getElem?_eq_some_iff.1 hg).1
        rw [Addr.add_lit, Nat.zero_add]
        refine (((Only.refl [] w).alloc _).cell (p := ⟨g, j, none⟩) hlt (by simp)).trans ?_
        rw [cell_of_row w g j cur 40 (0, 0) hg]
        rw [← hcur] at hu
        have hlt2 := (List.getElem?_eq_some_iff.1 hu).1
        rw [List.getElem?_take_of_lt (by simp at hlt2; omega)] at hu
        simpa using hu
    obtain ⟨v', w1, hr, ho, hg, hnn, hat⟩ := run_append_own_at (P := Try.prog) (w.alloc (.cells #[] 40)) w.heap.size 51 51 40 i40 _ 2 16 Try.underlying51 hi40 hz40 hsz40 hby40 rfl (by omega) _ 0 [] hown0 p n c (flat2 M) (by rw [flat2_length, hn])
      hcell
      (by
        intro u hu
        obtain ⟨e, _, hu⟩ := List.mem_flatMap.1 hu
        simp [cells2] at hu
        rcases hu with rfl | rfl <;> rfl) (by unfold maxLen; omega) (by omega) (by simp)
    rw [Nat.zero_add, List.nil_append] at ho
    have hO : Only [] w w1 := by
      have h1 := Only.of_grownBy hg
      exact ((Only.refl [] w).alloc _).trans h1 (fun x hx => .inr (by simp [Value.ownBlock] at hx; omega))
    obtain ⟨A', c', rfl⟩ : ∃ A' c', v' = .slice A' n c' := by
      rcases ho.2 with ⟨rfl, h2⟩ | ⟨g, cap, cur, rfl, _⟩
      · exact ⟨none, 0, by rw [h2]⟩
      · exact ⟨_, _, rfl⟩
    have HO := Lib.hid ho
    have HOO := Lib.hid hO
    have hE : ∀ W, (binOp .eql 51 (.slice (some p) n c) (.slice none 0 0)).run Try.prog W = .ok (.bool false) W := fun W => Lib.run_eql_slice_nil W 51 40 (some p) n c 0 0 Try.underlying51
    clear ho hO hg hnn hat hown0 hM hi40 hz40 hsz40 hby40 hcell
    go_enter Try.func34, Try.ntmps34
    go_wp2_with (at_builtin; refine wpList_append_run hr rfl _ _ rfl rfl rfl rfl ?_)
    go_ret
    exact ⟨A', c', rfl, HO.out, HOO.out⟩
theorem HB.keepC {B C : Nat} {w w' : World} {g : Nat} {M : Option Nat} {L : List Ent} {A : Option Addr} {c : Nat} (h : HB B w g M L A c) (k : KeepC C w w') (hC : w.heap.size ≤ C) : HB B w' g M L A c :=
  ⟨k.blk h.blk, ownsRow_keepC k h.own, h.ok, fun bm e => by
    obtain ⟨D, hD, hAt⟩ := h.map bm e
    have hlt := hD.lt
    refine ⟨D, ownsMap_of hD ?_, hAt⟩
    obtain ⟨o, ho⟩ : ∃ o, w.heap[bm]? = some o := ⟨_, Array.getElem?_eq_getElem hlt⟩
    rw [k.block bm o ho (.inl (by omega)), ho], h.nd, h.base⟩
def lenAt (og : Nat) (W : World) : Nat := match W.cell? ⟨og, 1, none⟩ with | some (.slice _ n _) => n | _ => 0
theorem HB.lenAt {B : Nat} {w : World} {g : Nat} {M : Option Nat} {L : List Ent} {A : Option Addr} {c : Nat} (h : HB B w g M L A c) : lenAt g w = L.length := by
  obtain ⟨g0, g1, g2, gl⟩ := h.blk.facts3
  unfold Go.Proofs.Ytodiemichniehaa.lenAt
  rw [g1]
set_option maxHeartbeats 4000000 in
theorem all_seqs {B : Nat} {w : World} {g : Nat} {M0 : Option Nat} {L m : List Ent} {A : Option Addr} {c cb : Nat} (hH : HB B w g M0 L A c) (hS : HS L m) (hlen : L.length ≤ 1048576) (hc : Blk w cb 24 #[.pointer (some ⟨g, 0, none⟩)]) :
    SeqsT Try.prog 33 #[.pointer (some ⟨cb, 0, none⟩)] (vals2 m) [] w := by
  intro l J Jx W S hK hl hlW hS0 _ hJ hJx hY h0
  have bc := hK.blk hc
  have hHW := hH.keepC hK (Nat.le_refl _)
  have hcl := clone_any hHW.own rfl hlen
  have HHW := Lib.hid hHW
  have HBC := Lib.hid bc
  have HJ := Lib.hid hJ
  have HY := Lib.hid hY
  have H0 := Lib.hid h0
  have HS0 := Lib.hid hS0
  obtain ⟨b0, bl⟩ := bc.facts1
  obtain ⟨g0, g1, g2, gl⟩ := hHW.blk.facts3
  clear hH hc hK hJ hJx hY h0 hS0 hl
  show Calls Try.prog 33 #[.func (.yield l) #[] #[], .pointer (some ⟨cb, 0, none⟩)] W _
  go_enter Try.func33, Try.ntmps33
  go_wp2_with (fail)
  go_region_held3 (fun w' => w'.cell? ⟨cb, 0, none⟩ = some (.pointer (some ⟨g, 0, none⟩)) ∧ w'.cell? ⟨g, 0, none⟩ = some FV ∧ w'.cell? ⟨g, 1, none⟩ = some (.slice A L.length c)) (first | (go_keep; done) | (refine ⟨?_, ?_, ?_⟩ <;> (go_simp; done)))
    (first | (go_at_call 34; refine (clone_any (HHW.out.keep (by first | exact Only.refl [] _ | exact Only.drewN (Only.refl [] _) _ | exact Only.drew (Only.refl [] _))).own rfl hlen).mono ?_; rintro e w1 ⟨A1, c1, rfl, hw1, o1⟩; have oW : Only [] W w1 := (by first | exact o1 | exact Only.trans (Only.drew (Only.refl [] W)) o1 (by simp) | exact Only.trans (Only.drewN (Only.refl [] W) _) o1 (by simp)); have hw1' : w1.ownsRow W.heap.size 40 2 (.slice A1 L.length c1) L.length (flat2 L) := hw1; have bc1 := oW.blk HBC.out (by simp); have hg1 := oW.blk HHW.out.blk (by simp); clear b0 bl g0 g1 g2 gl o1 hw1; obtain ⟨b0, bl⟩ := bc1.facts1; obtain ⟨g0, g1, g2, gl⟩ := hg1.facts3; have HW1 := Lib.hid hw1'; have HO1 := Lib.hid oW; clear bc1 hg1 hw1' oW))
  clear b0 bl g0 g1 g2 gl
  have hob := Blk.new w1 63 #[FV, .slice A1 L.length c1, .map none]
  have o2 : Only [] w1 (w1.alloc (.cells #[FV, .slice A1 L.length c1, .map none] 63)) := (Only.refl [] w1).alloc _
  have hs1 : W.heap.size ≤ w1.heap.size := HO1.out.size
  have hX : HB W.heap.size (w1.alloc (.cells #[FV, .slice A1 L.length c1, .map none] 63)) w1.heap.size none L A1 c1 := ⟨hob, ownsRow_only o2 HW1.out (fun _ _ => by simp), HHW.out.ok, (fun _ h => by cases h), HHW.out.nd, hs1⟩
  have hJ2 := HJ.out _ _ _ _ H0.out (KeepT.grow (HO1.out.trans o2 (by simp)))
  have hs2 : w1.heap.size < (w1.alloc (.cells #[FV, .slice A1 L.length c1, .map none] 63)).heap.size := hob.lt
  have HX := Lib.hid hX
  have HJ2 := Lib.hid hJ2
  clear hob o2 hX hJ2 H0 HBC
  go_wp2_with (fail)
  obtain ⟨og, hog⟩ : ∃ og, w1.heap.size = og := ⟨_, rfl⟩
  generalize hW2 : w1.alloc (.cells #[FV, .slice A1 L.length c1, .map none] 63) = w2 at HX HJ2 hs2 ⊢
  rw [hog] at HX hs2 ⊢
  have hogW : W.heap.size ≤ og := by omega
  have hown : ∀ x ∈ heapS og A1 none, W.heap.size ≤ x ∧ x < w2.heap.size := fun x hx => by
    simp at hx
    rcases hx with h | ⟨p, hp, h⟩
    · omega
    · have := HX.out.own.lt p.block (by rw [hp]; rfl)
      omega
  clear hW2 hog hs1 HO1 HW1
  refine (wpIn_wide (n := 9)).1 ?_
  gi_loopw [5] (fun _ wr => ∃ (k : Nat) (S' : List Nat) (L' : List Ent), J k S' wr ∧ k ≤ m.length ∧ HB W.heap.size wr og none L' A1 c1 ∧ HS L' (m.drop k) ∧ (∀ b, b ∈ S' → b ∈ S ∨ w2.heap.size ≤ b) ∧ w2.heap.size ≤ wr.heap.size) (fun _ wr => lenAt og wr)
  case atStart => exact ⟨0, S, L, HJ2.out, Nat.zero_le _, HX.out, hS, fun b h => .inl h, Nat.le_refl _⟩
  case round =>
    clear HX HJ2
    obtain ⟨k, S', L', hJk, hk, hH, hSk, hSS, hsz⟩ := hrel
    have hLl : L'.length = (m.drop k).length := hSk.length
    have hml : m.length ≤ 1048576 := by rw [← hS.length]; exact hlen
    rw [List.length_drop] at hLl
    have t := pop_any hH hSk (by omega)
    unfold hd some? at t
    have hown2 : ∀ x ∈ heapS og A1 none, W.heap.size ≤ x ∧ x ∉ S' := fun x hx => ⟨(hown x hx).1, fun hm => by
      rcases hSS x hm with h | h
      · have := HS0.out x h
        have := (hown x hx).1
        omega
      · have := (hown x hx).2
        omega⟩
    have hmz := hH.lenAt
    have HH := Lib.hid hH
    have HJk := Lib.hid hJk
    have HSS := Lib.hid hSS
    clear hH hJk hSS
    cases hdm : m.drop k with
    | nil =>
      rw [hdm] at t
      have hkm : k = m.length := by
        have h := congrArg List.length hdm
        simp at h
        omega
      gi_wp2
      refine ⟨trivial, callsIn_wide.2 (t.mono ?_)⟩
      clear t
      rintro e w4 ⟨rfl, L4, h4, s4, o4⟩
      have o5 : Only [] w4 (w4.alloc (.cells #[.int .i64 0, .int .i64 0] 40)) := (Only.refl [] w4).alloc _
      have HJ5 := Lib.hid (HJ.out _ _ _ _ HJk.out ((KeepT.of_only o4 hown2).trans (KeepT.grow o5)))
      clear h4 o4 o5 HJk HH
      gi_wp2
      refine ⟨fun _ h => (by cases h), ?_⟩
      gi_wp2
      refine bodyPost_ret (results_none rfl _ _ _) rfl ?_
      exact ⟨⟨_, rfl⟩, .inl ⟨S', by have e1 : (vals2 m).length = k := by simp [vals2, hkm]
                                    rw [e1]; exact HJ5.out⟩⟩
    | cons y r =>
      rw [hdm] at t
      have hkm : k < m.length := by
        have h := congrArg List.length hdm
        simp at h
        omega
      have hmk : m[k]? = some y := by
        have h := congrArg (fun l => l[0]?) hdm
        simpa using h
      have hdr : m.drop (k + 1) = r := by
        have h := congrArg List.tail hdm
        simpa [List.tail_drop] using h
      have hvk : (vals2 m)[k]? = some #[.agg #[.int .i64 y.1, .int .i64 y.2]] := by unfold vals2; rw [List.getElem?_map, hmk]; rfl
      gi_wp2
      refine ⟨trivial, callsIn_wide.2 (t.mono ?_)⟩
      clear t
      rintro e w4 ⟨rfl, L4, h4, s4, o4⟩
      replace s4 : HS L4 r := s4
      have l4 : L4.length = r.length := s4.length
      have o5 : Only [] w4 (w4.alloc (.cells #[.int .i64 y.1, .int .i64 y.2] 40)) := (Only.refl [] w4).alloc _
      have hJ5 := HJ.out _ _ _ _ HJk.out ((KeepT.of_only o4 hown2).trans (KeepT.grow o5))
      have h5 := h4.keep o5
      have hs5 : w2.heap.size ≤ (w4.alloc (.cells #[.int .i64 y.1, .int .i64 y.2] 40)).heap.size := Nat.le_trans hsz (Nat.le_trans o4.size o5.size)
      obtain ⟨x0, x1, xl⟩ := (Blk.new w4 40 #[.int .i64 y.1, .int .i64 y.2]).facts2
      obtain ⟨fn, tmps, assign, body, hy, hR⟩ := HY.out k S' _ _ hvk hJ5
      have HR := Lib.hid hR
      have HH5 := Lib.hid h5
      clear h4 o4 o5 HJk HH hJ5 h5 hR
      gi_wp2
      refine HR.out.mono ?_
      rintro e W3 (⟨rfl, ⟨S3, hJ3, hS3⟩, ho3⟩ | ⟨rfl, hJx, hsx⟩)
      · have s3 := ho3.size
        have h6 := HH5.out.only ho3 (fun x hx hm => by
          have h1 := hown x hx
          rcases List.mem_cons.1 hm with h | h
          · omega
          · exact (hown2 x hx).2 h)
        have HH6 := Lib.hid h6
        have HJ3 := Lib.hid hJ3
        clear hJ3 h6 ho3
        gi_wp2
        go_roundw
        case rel =>
          refine ⟨k + 1, S3, L4, HJ3.out, by omega, HH6.out, by rw [hdr]; exact s4, fun b hb => ?_, by omega⟩
          rcases hS3 b hb with h | h
          · exact HSS.out b h
          · right; omega
        case measure =>
          rw [hmz, HH6.out.lenAt, l4, hLl]
          have h := congrArg List.length hdm
          simp at h
          omega
      · gi_wp2
        refine bodyPost_ret (results_none rfl _ _ _) rfl ?_
        obtain ⟨S3, h3, _⟩ := hJx
        exact ⟨⟨_, rfl⟩, .inr ⟨S3, h3⟩⟩
end Go.Proofs.Ytodiemichniehaa
