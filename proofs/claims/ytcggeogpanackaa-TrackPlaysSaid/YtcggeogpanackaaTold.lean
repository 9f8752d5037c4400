/- What a track tells. -/
import Derived.Test.YtcggeogpanackaaHand
import Derived.Test.YtcggeogpanackaaRangeA
namespace Go.Proofs.Ytcggeogpanackaa
open Go.RowKit Go.Kx
attribute [local go_sem] Oper.semAt_some
set_option maxRecDepth 100000

theorem ref_info : ((Try.prog.info? 45).map fun i => (i.zero, i.size, i.bytes)) = some (some (.agg #[.int .i64 0, .int .i64 0, .int .i64 0, .int .i64 0]), 4, 32) := by kernel_rfl
set_option maxHeartbeats 4000000 in
theorem told_any {B : Nat} {w : World} {g : Nat} {room : Int} {L : List En} {A : Option Addr} {c : Nat} (hT : TB B w g room L A c) (hlen : L.length ≤ 1048576) :
    Calls Try.prog 19 #[.pointer (some ⟨g, 0, none⟩)] w fun e w' => ∃ A2 c2, e = .returned (.slice A2 L.length c2) ∧ w'.ownsRow w.heap.size 45 4 (.slice A2 L.length c2) L.length (flat4 L) ∧ Only [] w w' := by
  refine calls_marks Try.func19 rfl ?_
  simp only [Try.ntmps19, List.size_toArray, List.length_cons, List.length_nil, Nat.reduceAdd, Nat.reduceSub, Array.replicate_succ, Array.replicate_zero, List.push_toArray, List.append_toArray, List.nil_append, List.cons_append]
  go_wp2_with (fail)
  refine (all_any _ (some ⟨g, 0, none⟩) rfl _).mono ?_
  rintro e w1 ⟨rfl, rfl⟩
  have hb : Blk ((w.alloc (.cells #[.slice none 0 0] 32)).alloc (.cells #[.pointer (some ⟨g, 0, none⟩)] 28)) (w.heap.size + 1) 28 #[.pointer (some ⟨g, 0, none⟩)] := by have h := Blk.new (w.alloc (.cells #[.slice none 0 0] 32)) 28 #[.pointer (some ⟨g, 0, none⟩)]; simpa using h
  have hr : Blk ((w.alloc (.cells #[.slice none 0 0] 32)).alloc (.cells #[.pointer (some ⟨g, 0, none⟩)] 28)) w.heap.size 32 #[.slice none 0 0] := (Blk.new w 32 _).alloc _
  have ho : Only [] w ((w.alloc (.cells #[.slice none 0 0] 32)).alloc (.cells #[.pointer (some ⟨g, 0, none⟩)] 28)) := ((Only.refl _ _).alloc _).alloc _
  go_wp2_with (fail)
  generalize (w.alloc (.cells #[.slice none 0 0] 32)).alloc (.cells #[.pointer (some ⟨g, 0, none⟩)] 28) = w2 at hb hr ho ⊢
  have hs := ho.size
  have hrl := hr.lt
  have hbl := hb.lt
  refine' wp_rangeFunc_seqsA (gf := 39) (lb := #[.pointer (some ⟨w.heap.size + 1, 0, none⟩)]) (vs := vals4 L) (prot := []) rfl (enters Try.func39 (by kernel_rfl) rfl)
    (all_seqs (hT.keep ho) hlen hb) (by intro v hv; simp [vals4] at hv; obtain ⟨_, _, _, _, _, rfl⟩ := hv; rfl) [w.heap.size] (by simp; omega) (by simp)
    (fun k S W => ∃ A2 c2, Blk W w.heap.size 32 #[.slice A2 k c2] ∧ W.ownsRow w.heap.size 45 4 (.slice A2 k c2) k (flat4 (L.take k)) ∧ S = w.heap.size :: A2.toList.map (·.block) ∧ Only [] w W) (fun _ _ => False) ?hI (fun _ _ _ h _ => h) ?h0
    _ (fun k V => V.alloc (.cells #[.int .i64 (L.getD k dE).1.1.1, .int .i64 (L.getD k dE).1.1.2, .int .i64 (L.getD k dE).1.2] 34)) (fun k V => (Only.refl [] V).alloc _) ?assign ?body ?done (fun _ _ _ _ h _ => h.elim)
  case assign =>
    intro l k v W K hv hK
    obtain ⟨hk, rfl⟩ : k < L.length ∧ #[.agg #[.int .i64 (L.getD k dE).1.1.1, .int .i64 (L.getD k dE).1.1.2, .int .i64 (L.getD k dE).1.2], .int .i64 (L.getD k dE).2] = v := by
      by_cases hk : k < L.length
      · rw [vals4_at hk] at hv
        refine ⟨hk, ?_⟩
        rw [← Option.some.inj hv]
        simp [List.getD, hk]
      · rw [List.getElem?_eq_none (by simp [vals4]; omega)] at hv; cases hv
    clear hk hv
    gi_wp2
    exact hK
  case hI =>
    rintro k S W1 W2 ⟨A2, c2, h1, h2, h3, h4⟩ hk
    exact ⟨A2, c2, hk.blk h1, ownsRow_keepC hk h2, h3, h4.keepC hk (by omega)⟩
  case h0 => exact ⟨none, 0, hr, World.ownsRow_nil _ _ _ _, rfl, ho⟩
  case body =>
    rintro l k vv S V W hv ⟨A2, c2, hb, how, rfl, hO⟩ hk
    have hkl : k < L.length := by
      rcases Nat.lt_or_ge k L.length with h | h
      · exact h
      · rw [List.getElem?_eq_none (by simp [vals4]; omega)] at hv; cases hv
    clear hv
    have hg : L[k]? = some (L.getD k dE) := by rw [List.getElem?_eq_getElem hkl]; simp [List.getD, hkl]
    have hsb := hk.blk (Blk.new V 34 #[.int .i64 (L.getD k dE).1.1.1, .int .i64 (L.getD k dE).1.1.2, .int .i64 (L.getD k dE).1.2])
    have htk : L.take (k + 1) = L.take k ++ [L.getD k dE] := by
      rw [List.take_succ_eq_append_getElem hkl]; simp [List.getD, hkl]
    have hgd : (L[k]?.getD dE) = L.getD k dE := rfl
    simp only [hgd]
    generalize L.getD k dE = t at hg hsb htk ⊢
    have hsz := hO.size
    obtain ⟨gg, cap, w5, hrun, how5, o5, hg5⟩ := run_append4 (P := Try.prog) 45 32 Try.underlying32 ref_info rfl how t (by omega) (by unfold maxLen; omega) (by omega)
    have hne := owns_ne how hb (by decide)
    have hns := owns_ne how hsb (by decide)
    have b5 := o5.blk hb (fun h => hne (by simpa using h))
    have s5 := o5.blk hsb (fun h => hns (by simpa using h))
    have hne5 := owns_ne how5 b5 (by decide)
    obtain ⟨q0, ql⟩ := hb.facts1
    obtain ⟨s0, s1, s2, sl⟩ := hsb.facts3
    obtain ⟨p0, pl⟩ := b5.facts1
    have fr := b5.frozen 0
    have hgw : w.heap.size ≤ gg := by
      rcases hg5 with h | h
      · exact (how.lt gg h).1
      · omega
    have HO := Lib.hid hO
    have H5 := Lib.hid how5
    have HB5 := Lib.hid b5
    have HO5 := Lib.hid o5
    have HN5 := Lib.hid hne5
    have HG5 := Lib.hid hg5
    have HTK := Lib.hid htk
    have HOW := Lib.hid how
    clear hO how5 b5 o5 hne5 htk hne hns s5 hb hsb hg5 how hg hgd
    gi_wp2_with (gi_at_builtin; refine wpListIn_append_run hrun rfl _ _ rfl rfl rfl rfl ?_)
    have oown : Only (A2.toList.map (·.block)) W w5 := HO5.out.mono (fun x hx => .inl (by cases A2 with | none => simp [Value.ownBlock] at hx | some p => simp [Value.ownBlock] at hx; simp [hx]))
    refine ⟨⟨w.heap.size :: [gg], ⟨some ⟨gg, 0, none⟩, cap, HB5.out.set_ 0 _, ?_, rfl, ?_⟩, ?_⟩, ?_⟩
    · rw [HTK.out, flat4_snoc]
      exact ownsRow_only (only_setCell _ _ _) H5.out (fun g' h k => HN5.out (by simp at k; rw [h, k]))
    · refine Only.setCell ((HO.out).trans oown (fun x hx => .inr ?_)) (.inr (Nat.le_refl _)) _
      rw [List.mem_map] at hx
      obtain ⟨p, hp, rfl⟩ := hx
      exact (HOW.out.lt p.block (by simp at hp; rw [hp]; rfl)).1
    · intro b hb
      simp at hb
      rcases hb with rfl | rfl
      · simp
      · rcases HG5.out with h | h
        · left
          cases A2 with
          | none => simp [Value.ownBlock] at h
          | some p => simp [Value.ownBlock] at h; simp [h]
        · right; exact h
    · exact (oown.mono (fun x hx => .inl (List.mem_cons_of_mem _ hx))).setCell (.inl (by simp)) _
  case done =>
    rintro D S W hD ⟨A2, c2, hb, how, rfl, hO⟩ hK
    have e1 : (vals4 L).length = L.length := by simp [vals4]
    rw [e1, List.take_length] at how
    rw [e1] at hb
    obtain ⟨c0, cl⟩ := hb.facts1
    have HW := Lib.hid how
    have HO := Lib.hid hO
    have HD := Lib.hid hK
    clear how hO hb hK
    go_wp2_with (fail)
    refine ⟨by simp, .inl ⟨_, _, rfl, run_takeDeferred HD.out, ?_⟩⟩
    have hk := KeepC.putObj (B := D) (o' := .deferred none) HD.out rfl (Nat.le_refl _)
    exact ⟨_, results_tmp rfl _ _ _, A2, c2, rfl, ownsRow_keepC hk HW.out, HO.out.keepC hk (by omega)⟩
end Go.Proofs.Ytcggeogpanackaa
