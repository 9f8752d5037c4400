/- Entries handed out as they are now: Clone, handOut, All. -/
import Derived.Test.YtcggeogpanackaaToldN
import Derived.Lib.SliceRun
namespace Go.Proofs.Ytcggeogpanackaa
open Go.RowKit Go.Kx
attribute [local go_sem] Oper.semAt_some
set_option maxRecDepth 100000

/-- a row of cells that holds these entries -/
def Row4 (w : World) (A : Option Addr) (M : List En) : Prop :=
  ∀ j u, (flat4 M)[j]? = some u → ∃ b o, A = some ⟨b, o, none⟩ ∧ b < w.heap.size ∧ w.cell? ⟨b, o + j, none⟩ = some u
theorem Row4.only {w w' : World} {A : Option Addr} {M : List En} (h : Row4 w A M) (ho : Only [] w w') : Row4 w' A M := fun j u hu => by
  obtain ⟨b, o, hA, hb, hc⟩ := h j u hu
  have := ho.size
  exact ⟨b, o, hA, by omega, (ho.cell (p := ⟨b, _, none⟩) hb (by simp)).trans hc⟩
theorem Row4.besides {S : List Nat} {w w' : World} {A : Option Addr} {M : List En} (h : Row4 w A M) (ho : Only S w w') (hn : ∀ p, A = some p → p.block ∉ S) : Row4 w' A M := fun j u hu => by
  obtain ⟨b, o, hA, hb, hc⟩ := h j u hu
  have := ho.size
  exact ⟨b, o, hA, by omega, (ho.cell (p := ⟨b, o + j, none⟩) hb (show b ∉ S from hn _ hA)).trans hc⟩
theorem own_row4 {W : World} {base n cap : Nat} {A : Option Addr} {t : TypeId} {L : List En} (hn : n = L.length) (h : W.ownsRow base t 4 (.slice A n cap) n (flat4 L)) : Row4 W A L := by
  subst hn
  intro j u hu
  have hj : j < (flat4 L).length := (List.getElem?_eq_some_iff.1 hu).1
  rw [flat4_length] at hj
  rcases h.2 with ⟨h1, h2⟩ | ⟨g, cap', cur, h1, hb, hg, _, _, _, hcur⟩
  · omega
  · injection h1 with hA _ _
    refine ⟨g, 0, hA, (Array.getElem?_eq_some_iff.1 hg).1, ?_⟩
    rw [Nat.zero_add, cell_of_row W g j cur t (0, 0) hg]
    rw [← hcur, List.getElem?_take_of_lt hj] at hu
    simpa using hu
theorem own_row4_drop {W : World} {base c b n : Nat} {t : TypeId} {L : List En} (hn : L.length = n) (h : W.ownsRow base t 4 (.slice (some ⟨b, 0, none⟩) n c) n (flat4 L)) (i : Nat) : Row4 W (some ⟨b, i * 4, none⟩) (L.drop i) := by
  intro j u hu
  rw [← flat4_drop, List.getElem?_drop] at hu
  obtain ⟨b', o', hA, hb, hc⟩ := own_row4 hn.symm h _ _ hu
  cases hA
  exact ⟨b, i * 4, rfl, hb, by rw [Nat.zero_add] at hc; exact hc⟩
theorem Row4.nil (w : World) (A : Option Addr) : Row4 w A [] := fun j u h => by simp [flat4] at h

set_option maxHeartbeats 1000000 in
theorem clone_any {w : World} {A : Option Addr} {n c : Nat} {M : List En} (hM : Row4 w A M) (hn : M.length = n) (h20 : n ≤ 1048576) :
    Calls Try.prog 47 #[.slice A n c] w fun e w' => ∃ A' c', e = .returned (.slice A' n c') ∧ w'.ownsRow w.heap.size 71 4 (.slice A' n c') n (flat4 M) ∧ Only [] w w' := by
  cases A with
  | none =>
    have hm : M = [] := by
      cases M with
      | nil => rfl
      | cons e r => obtain ⟨b, o, h, _⟩ := hM 0 (.int .i64 e.1.1.1) rfl; cases h
    subst hm
    simp at hn
    subst hn
    clear hM h20
    have hE : ∀ W, (binOp .eql 64 (.slice none 0 c) (.slice none 0 0)).run Try.prog W = .ok (.bool true) W := fun W => Lib.run_eql_slice_nil W 64 71 none 0 c 0 0 Try.underlying64
    go_enter Try.func47, Try.ntmps47
    go_wp2_with (fail)
    go_ret
    exact ⟨none, 0, rfl, World.ownsRow_nil _ _ _ _, Only.refl _ _⟩
  | some p =>
    obtain ⟨i71, hi71, hz71, hsz71, hby71⟩ := info_parts en_info
    have hown0 : (w.alloc (.cells #[] 71)).ownsRow w.heap.size 71 4 (.slice (some ⟨w.heap.size, 0, none⟩) 0 0) 0 [] :=
      ⟨rfl, .inr ⟨w.heap.size, 0, #[], rfl, Nat.le_refl _, Blk.new _ _ _, Nat.le_refl _, by simp [maxLen], rfl, rfl⟩⟩
    obtain ⟨v', w1, hr, ho, hg, hnn, hat⟩ := run_append_own_at (P := Try.prog) (w.alloc (.cells #[] 71)) w.heap.size 64 64 71 i71 _ 4 32 Try.underlying64 hi71 hz71 hsz71 hby71 rfl (by omega) _ 0 [] hown0 p n c (flat4 M) (by rw [flat4_length, hn])
      (fun j u hu => by
        obtain ⟨b, o, hp, hb, hc⟩ := hM j u hu
        cases hp
        rw [Addr.add_lit]
        exact (((Only.refl [] w).alloc _).cell (p := ⟨b, o + j, none⟩) hb (by simp)).trans hc)
      (by
        intro u hu
        obtain ⟨e, _, hu⟩ := List.mem_flatMap.1 hu
        simp [cells4] at hu
        rcases hu with rfl | rfl | rfl | rfl <;> rfl) (by unfold maxLen; omega) (by omega) (by simp)
    rw [Nat.zero_add, List.nil_append] at ho
    have hO : Only [] w w1 := by
      have h1 := Only.of_grownBy hg
      exact ((Only.refl [] w).alloc _).trans h1 (fun x hx => .inr (by simp [Value.ownBlock] at hx; omega))
    obtain ⟨A', c', rfl⟩ : ∃ A' c', v' = .slice A' n c' := by
      rcases ho.2 with ⟨rfl, h2⟩ | ⟨g, cap, cur, rfl, _⟩
      · exact ⟨none, 0, by rw [h2]⟩
      · exact ⟨_, _, rfl⟩
    have HO := Lib.hid ho
    have HOO := Lib.hid hO
    have hE : ∀ W, (binOp .eql 64 (.slice (some p) n c) (.slice none 0 0)).run Try.prog W = .ok (.bool false) W := fun W => Lib.run_eql_slice_nil W 64 71 (some p) n c 0 0 Try.underlying64
    clear ho hO hg hnn hat hown0 hM hi71 hz71 hsz71 hby71
    go_enter Try.func47, Try.ntmps47
    go_wp2_with (at_builtin; refine wpList_append_run hr rfl _ _ rfl rfl rfl rfl ?_)
    go_ret
    exact ⟨A', c', rfl, HO.out, HOO.out⟩

/-- what is handed out of entries -/
def vals4 (M : List En) : List (Array Value) := M.map fun e => #[.agg #[.int .i64 e.1.1.1, .int .i64 e.1.1.2, .int .i64 e.1.2], .int .i64 e.2]
theorem vals4_at {M : List En} {k : Nat} (h : k < M.length) : (vals4 M)[k]? = some #[.agg #[.int .i64 M[k].1.1.1, .int .i64 M[k].1.1.2, .int .i64 M[k].1.2], .int .i64 M[k].2] := by
  simp [vals4, h]

set_option maxHeartbeats 2000000 in
theorem handout_any {A : Option Addr} {n c l : Nat} {M : List En} {W : World} {S : List Nat} {J : Nat → List Nat → World → Prop} {Jx : World → Prop} (hM : Row4 W A M) (hn : M.length = n) (h20 : n ≤ 1048576) (hlW : l < W.heap.size) (hS : ∀ b ∈ S, b < W.heap.size)
    (hJ : ∀ k S W1 W2, J k S W1 → Only [] W1 W2 → J k S W2)
    (hY : ∀ k S W1 v, (vals4 M)[k]? = some v → J k S W1 → YieldAt Fence.wide 8 Try.prog l v W1 fun e W' =>
      (e = .returned (.bool true) ∧ (∃ S', J (k + 1) S' W' ∧ ∀ b ∈ S', b ∈ S ∨ W1.heap.size ≤ b) ∧ Only (l :: S) W1 W') ∨ (e = .returned (.bool false) ∧ Jx W'))
    (h0 : J 0 S W) :
    Calls Try.prog 33 #[.slice A n c, .func (.yield l) #[] #[]] W fun e W' => (∃ v, e = .returned v) ∧ ((∃ S', J n S' W') ∨ Jx W') := by
  have hcl := clone_any (c := c) hM hn h20
  have HN := Lib.hid hn
  have HJ := Lib.hid hJ
  have HY := Lib.hid hY
  have H0 := Lib.hid h0
  clear hM hJ hY h0 hn
  go_enter Try.func33, Try.ntmps33
  go_wp2_with (fail)
  refine hcl.mono ?_
  clear hcl
  rintro e w1 ⟨A', c', rfl, how, ho⟩
  have hJ0 : J 0 S w1 := HJ.out _ _ _ _ H0.out ho
  have hs1 := ho.size
  obtain ⟨hA, hAlt⟩ : (∀ k, k < n → ∃ b, A' = some ⟨b, 0, none⟩) ∧ ∀ p, A' = some p → p.block < w1.heap.size ∧ W.heap.size ≤ p.block := by
    refine ⟨fun k hk => ?_, fun p e => ?_⟩
    · rcases own_form how with ⟨_, h0, _⟩ | ⟨h, _⟩
      · omega
      · exact h
    · have := how.lt p.block (by rw [e]; rfl); exact ⟨this.2, this.1⟩
  have HJ0 := Lib.hid hJ0
  have HA := Lib.hid hA
  have HAL := Lib.hid hAlt
  have HW := Lib.hid (own_row4 HN.out.symm how)
  clear hJ0 hA hAlt how ho H0
  go_wp2_with (fail)
  refine (wpIn_wide (n := 9)).1 ?_
  gi_loopw [9] (fun i wr => ∃ k : Nat, ∃ S', i = .int .i64 k ∧ k ≤ n ∧ J k S' wr ∧ (∀ b, b ∈ S' → b ∈ S ∨ w1.heap.size ≤ b) ∧ Row4 wr A' M ∧ w1.heap.size ≤ wr.heap.size) (fun i _ => n - (intOf i).toNat)
  case atStart => exact ⟨0, S, rfl, by omega, HJ0.out, fun b h => .inl h, HW.out, Nat.le_refl _⟩
  case round =>
    obtain ⟨k, S', rfl, hk, hJk, hSk, hrk, hszr⟩ := hrel
    have HJk := Lib.hid hJk
    have HSk := Lib.hid hSk
    have HRk := Lib.hid hrk
    clear hJk hSk hrk
    by_cases hlt : k < n
    · have hkM : k < M.length := by have := HN.out; omega
      obtain ⟨b, rfl⟩ := HA.out k hlt
      obtain ⟨f0, f1, f2, f3⟩ := flat4_at M k M[k] (List.getElem?_eq_getElem hkM)
      have cell : ∀ j u, (flat4 M)[j]? = some u → b < wr.heap.size ∧ wr.cell? ⟨b, j, none⟩ = some u := fun j u hu => by
        obtain ⟨b', o', hp, hb, hc⟩ := HRk.out j u hu
        cases hp
        rw [Nat.zero_add] at hc
        exact ⟨hb, hc⟩
      have c0 := (cell _ _ f0).2
      have c1 := (cell _ _ f1).2
      have c2 := (cell _ _ f2).2
      have c3 := (cell _ _ f3).2
      have hbl := (cell _ _ f0).1
      clear cell f0 f1 f2 f3
      obtain ⟨W2, hW2⟩ : ∃ W2, wr.alloc (.cells #[.int .i64 M[k].1.1.1, .int .i64 M[k].1.1.2, .int .i64 M[k].1.2, .int .i64 M[k].2] 71) = W2 := ⟨_, rfl⟩
      have o2 : Only [] wr W2 := by rw [← hW2]; exact (Only.refl [] wr).alloc _
      have HJ1 := HJ.out _ _ _ _ HJk.out o2
      obtain ⟨fn, tmps, assign, body, hy, hR⟩ := HY.out k S' _ _ (vals4_at hkM) HJ1
      have hs2 := o2.size
      have HR := Lib.hid hR
      have HR2 := Lib.hid (HRk.out.only o2)
      clear hR HJ1 o2
      subst hW2
      gi_wp2
      refine HR.out.mono ?_
      rintro e W3 (⟨rfl, ⟨S3, hJ3, hS3⟩, ho3⟩ | ⟨rfl, hJx⟩)
      · have s3 := ho3.size
        have hp := HAL.out _ rfl
        simp at s3 hS3 hp
        gi_wp2
        go_roundw
        case rel =>
          refine ⟨k + 1, S3, by go_num, by omega, hJ3, fun b' h => ?_, HR2.out.besides ho3 (fun p e h => ?_), by omega⟩
          · rcases hS3 _ h with h | h
            · exact HSk.out _ h
            · right; omega
          · cases e
            rcases List.mem_cons.1 h with h | h
            · simp at h; omega
            · rcases HSk.out _ h with h | h
              · have := hS _ h; simp at this; omega
              · simp at h; omega
        case measure => simp [intOf]; omega
      · gi_wp2
        refine bodyPost_ret (results_none rfl _ _ _) rfl ?_
        exact ⟨⟨_, rfl⟩, .inr hJx⟩
    · obtain rfl : k = n := by omega
      gi_wp2
      go_end0
      exact ⟨⟨_, rfl⟩, .inl ⟨S', HJk.out⟩⟩

set_option maxHeartbeats 1000000 in
/-- All over a track -/
theorem all_seqs {B : Nat} {w : World} {g : Nat} {room : Int} {L : List En} {A : Option Addr} {c cb : Nat} (hT : TB B w g room L A c) (hlen : L.length ≤ 1048576) (hc : Blk w cb 28 #[.pointer (some ⟨g, 0, none⟩)]) :
    Seqs Try.prog 39 #[.pointer (some ⟨cb, 0, none⟩)] (vals4 L) [] w := by
  intro l J Jx W S hK hl hlW hS _ hJ hY h0
  have hb := hK.blk hT.blk
  obtain ⟨g0, g1, gl⟩ := hb.facts2
  obtain ⟨cc, cl⟩ := (hK.blk hc).facts1
  have hown : W.ownsRow B 71 4 (.slice A L.length c) L.length (flat4 L) := ownsRow_keepC hK hT.own
  have hr := own_row4 rfl hown
  have hh := handout_any (c := c) hr rfl hlen hlW hS hJ hY h0
  have HH := Lib.hid hh
  have e : (vals4 L).length = L.length := by simp [vals4]
  rw [e]
  clear hh hr hown hJ hY h0 hK hT hc hb
  show Calls Try.prog 39 #[.func (.yield l) #[] #[], .pointer (some ⟨cb, 0, none⟩)] W _
  go_enter Try.func39, Try.ntmps39
  go_wp2_with (fail)
  refine HH.out.mono ?_
  rintro e W' ⟨⟨v, rfl⟩, hx⟩
  go_wp2_with (fail)
  go_end0
  exact ⟨⟨_, rfl⟩, hx⟩
end Go.Proofs.Ytcggeogpanackaa
