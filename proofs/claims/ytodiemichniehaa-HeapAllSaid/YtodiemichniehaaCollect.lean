/- slices.Collect of entries, whatever hands them out; All of a heap. -/
import Derived.Test.YtodiemichniehaaSets
import Derived.Test.YtodiemichniehaaRangeT
namespace Go.Proofs.Ytodiemichniehaa
open Go.RowKit Go.Kx
attribute [local go_sem] Oper.semAt_some
set_option maxRecDepth 100000

def vals2 (M : List Ent) : List (Array Value) := M.map fun e => #[.agg #[.int .i64 e.1, .int .i64 e.2]]
theorem vals2_at {M : List Ent} {k : Nat} {v : Array Value} (h : (vals2 M)[k]? = some v) : ∃ e, M[k]? = some e ∧ v = #[.agg #[.int .i64 e.1, .int .i64 e.2]] := by
  unfold vals2 at h
  rw [List.getElem?_map] at h
  cases hm : M[k]? with
  | none => rw [hm] at h; cases h
  | some e => rw [hm] at h; injection h with h; exact ⟨e, rfl, h.symm⟩
theorem _root_.Go.Kx.KeepC.of_older {B : Nat} {a b c : World} (h : Only [] a b) (k : KeepC b.heap.size b c) : KeepC a.heap.size a c :=
  (KeepC.of_only h).trans (k.mono h.size)
theorem _root_.Go.Kx.SeqsT.later {P : Program} {gf : Nat} {lb : Array Value} {vs : List (Array Value)} {prot : List Nat} {w w' : World} (h : SeqsT P gf lb vs prot w) (o : Only [] w w') : SeqsT P gf lb vs prot w' :=
  fun l J Jx W S hK hl => h l J Jx W S ((KeepC.of_only o).trans (hK.mono o.size)) (Nat.le_trans o.size hl)
theorem all_any (v : Value) (q : Option Addr) (hv : v = .pointer q) (w : World) :
    Calls Try.prog 25 #[v] w fun e w' => e = .returned (.func (.func 33) #[] #[.pointer (some ⟨w.heap.size, 0, none⟩)]) ∧ w' = w.alloc (.cells #[v] 24) := by
  subst hv
  go_enter Try.func25, Try.ntmps25
  go_wp2_with (fail)
  go_ret
  exact ⟨rfl, rfl⟩
theorem all_seqs_nil {c : Nat} {w : World} (hc : Blk w c 24 #[.pointer none]) : SeqsT Try.prog 33 #[.pointer (some ⟨c, 0, none⟩)] (vals2 []) [] w := by
  intro l J Jx W S hK hl hlW hS _ hJ hJx hY h0
  have cc := (hK.blk hc).cell 0
  simp at cc
  have H0 := Lib.hid h0
  clear hc hJ hY h0 hK
  show Calls Try.prog 33 #[.func (.yield l) #[] #[], .pointer (some ⟨c, 0, none⟩)] W _
  go_enter Try.func33, Try.ntmps33
  go_wp2_with (fail)
  refine bodyPost_ret (results_none rfl _ _ _) rfl ?_
  exact ⟨⟨_, rfl⟩, .inl ⟨S, H0.out⟩⟩
theorem own_keepT {B : Nat} {S : List Nat} {W W' : World} (h : KeepT B S W W') {base : Nat} {e : TypeId} {size : Nat} {v : Value} {n : Nat} {xs : List Value} (ho : W.ownsRow base e size v n xs) (hb : ∀ b, v.ownBlock = some b → b < B ∨ b ∈ S) : W'.ownsRow base e size v n xs := by
  obtain ⟨h1, h2⟩ := ho
  refine ⟨h1, ?_⟩
  rcases h2 with h2 | ⟨g, cap, cur, hv, hg, hh, r⟩
  · exact .inl h2
  · exact .inr ⟨g, cap, cur, hv, hg, (h.block g (Array.getElem?_eq_some_iff.1 hh).1 (hb g (by rw [hv]; rfl))).trans hh, r⟩
set_option maxHeartbeats 4000000 in
theorem appendseq_any {w : World} {cb : Nat} {M : List Ent} (hs0 : SeqsT Try.prog 33 #[.pointer (some ⟨cb, 0, none⟩)] (vals2 M) [] w) (hlen : M.length ≤ 1048576) :
    Calls Try.prog 32 #[.slice none 0 0, .func (.func 33) #[] #[.pointer (some ⟨cb, 0, none⟩)]] w fun e w' => ∃ A2 c2, e = .returned (.slice A2 M.length c2) ∧ w'.ownsRow w.heap.size 40 2 (.slice A2 M.length c2) M.length (flat2 M) ∧ Only [] w w' := by
  refine calls_marks Try.func32 rfl ?_
  simp only [Try.ntmps32, List.size_toArray, List.length_cons, List.length_nil, Nat.reduceAdd, Nat.reduceSub, Array.replicate_succ, Array.replicate_zero, List.push_toArray, List.append_toArray, List.nil_append, List.cons_append]
  go_wp2_with (fail)
  have hr : Blk (w.alloc (.cells #[.slice none 0 0] 51)) w.heap.size 51 #[.slice none 0 0] := Blk.new w 51 _
  have ho : Only [] w (w.alloc (.cells #[.slice none 0 0] 51)) := (Only.refl _ _).alloc _
  have hseq := hs0.later ho
  clear hs0
  generalize w.alloc (.cells #[.slice none 0 0] 51) = w2 at hr ho hseq ⊢
  have hs := ho.size
  have hrl := hr.lt
  refine' wp_rangeFunc_seqsT (gf := 33) (lb := #[.pointer (some ⟨cb, 0, none⟩)]) (vs := vals2 M) rfl (enters Try.func33 (by kernel_rfl) rfl)
    hseq (by intro v hv; simp [vals2] at hv; obtain ⟨_, _, _, rfl⟩ := hv; rfl) [w.heap.size] (by simp; omega) (by simp)
    (fun k S W => ∃ A2 c2, Blk W w.heap.size 51 #[.slice A2 k c2] ∧ W.ownsRow w.heap.size 40 2 (.slice A2 k c2) k (flat2 (M.take k)) ∧ S = w.heap.size :: A2.toList.map (·.block) ∧ Only [] w W) (fun _ _ _ => False) ?hI (fun _ _ _ _ h _ => h) ?h0
    _ (fun k V => V.alloc (.cells #[.int .i64 (gt_ M k).1, .int .i64 (gt_ M k).2] 40)) (fun k V => (Only.refl [] V).alloc _) ?assign ?body ?done (fun _ _ _ _ _ _ h _ => h.elim)
  case assign =>
    intro l k v W K hv hK
    obtain rfl : #[.agg #[.int .i64 (gt_ M k).1, .int .i64 (gt_ M k).2]] = v := by
      obtain ⟨e, he, rfl⟩ := vals2_at hv
      have e2 : gt_ M k = e := by unfold gt_; rw [he]; rfl
      rw [e2]
    clear hv
    gi_wp2
    exact hK
  case hI =>
    rintro k S W1 W2 ⟨A2, c2, h1, h2, rfl, h4⟩ hk
    exact ⟨A2, c2, hk.blk h1 (.inl (by omega)), own_keepT hk h2 (fun b hb => .inr (by cases A2 with | none => simp [Value.ownBlock] at hb | some p => simp [Value.ownBlock] at hb; subst hb; simp)), rfl, h4.keepT hk hs⟩
  case h0 => exact ⟨none, 0, hr, World.ownsRow_nil _ _ _ _, rfl, ho⟩
  case body =>
    rintro l k vv S V W hv ⟨A2, c2, hb, how, rfl, hO⟩ hk
    obtain ⟨e, he, rfl⟩ := vals2_at hv
    have hkl : k < M.length := (List.getElem?_eq_some_iff.1 he).1
    clear hv
    have e2 : gt_ M k = e := by unfold gt_; rw [he]; rfl
    have hsb := hk.blk (Blk.new V 40 #[.int .i64 (gt_ M k).1, .int .i64 (gt_ M k).2])
    have htk : M.take (k + 1) = M.take k ++ [e] := by
      rw [List.take_add_one, he]; rfl
    rw [e2] at hsb ⊢
    clear e2 he
    have hsz := hO.size
    obtain ⟨gg, cap, w5, hrun, how5, o5, hg5⟩ := run_append2 (P := Try.prog) 40 51 Try.underlying51 en_info rfl how e (by omega) (by unfold maxLen; omega) (by omega)
    have hne := owns_ne how hb (by decide)
    have b5 := o5.blk hb (fun h => hne (by simpa using h))
    have hne5 := owns_ne how5 b5 (by decide)
    obtain ⟨q0, ql⟩ := hb.facts1
    obtain ⟨s0, s1, sl⟩ := hsb.facts2
    obtain ⟨p0, pl⟩ := b5.facts1
    have fr := b5.frozen 0
    have hgw : w.heap.size ≤ gg := by
      rcases hg5 with h | h
      · exact (how.lt gg h).1
      · omega
    have HO := Lib.hid hO
    have H5 := Lib.hid how5
    have HB5 := Lib.hid b5
    have HO5 := Lib.hid o5
    have HN5 := Lib.hid hne5
    have HG5 := Lib.hid hg5
    have HTK := Lib.hid htk
    have HOW := Lib.hid how
    clear hO how5 b5 o5 hne5 htk hne hb hsb hg5 how
    gi_wp2_with (gi_at_builtin; refine wpListIn_append_run hrun rfl _ _ rfl rfl rfl rfl ?_)
    have oown : Only (A2.toList.map (·.block)) W w5 := HO5.out.mono (fun x hx => .inl (by cases A2 with | none => simp [Value.ownBlock] at hx | some p => simp [Value.ownBlock] at hx; simp [hx]))
    refine ⟨⟨w.heap.size :: [gg], ⟨some ⟨gg, 0, none⟩, cap, HB5.out.set_ 0 _, ?_, rfl, ?_⟩, ?_⟩, ?_⟩
    · rw [HTK.out, flat2_snoc]
      exact ownsRow_only (only_setCell _ _ _) H5.out (fun g' h k => HN5.out (by simp at k; rw [h, k]))
    · refine Only.setCell ((HO.out).trans oown (fun x hx => .inr ?_)) (.inr (Nat.le_refl _)) _
      rw [List.mem_map] at hx
      obtain ⟨p, hp, rfl⟩ := hx
      exact (HOW.out.lt p.block (by simp at hp; rw [hp]; rfl)).1
    · intro b hb
      simp at hb
      rcases hb with rfl | rfl
      · simp
      · rcases HG5.out with h | h
        · left
          cases A2 with
          | none => simp [Value.ownBlock] at h
          | some p => simp [Value.ownBlock] at h; simp [h]
        · right; exact h
    · exact (oown.mono (fun x hx => .inl (List.mem_cons_of_mem _ hx))).setCell (.inl (by simp)) _
  case done =>
    rintro D S W hD - ⟨A2, c2, hb, how, rfl, hO⟩ hK
    have e1 : (vals2 M).length = M.length := by simp [vals2]
    rw [e1, List.take_length] at how
    rw [e1] at hb
    obtain ⟨c0, cl⟩ := hb.facts1
    have HW := Lib.hid how
    have HO := Lib.hid hO
    have HD := Lib.hid hK
    clear how hO hb hK
    go_wp2_with (fail)
    refine ⟨by simp, .inl ⟨_, _, rfl, run_takeDeferred HD.out, ?_⟩⟩
    have hk := KeepC.putObj (B := D) (o' := .deferred none) HD.out rfl (Nat.le_refl _)
    exact ⟨_, results_tmp rfl _ _ _, A2, c2, rfl, ownsRow_keepC hk HW.out, HO.out.keepC hk (by omega)⟩
theorem collect_any {w : World} {cb : Nat} {M : List Ent} (hs0 : SeqsT Try.prog 33 #[.pointer (some ⟨cb, 0, none⟩)] (vals2 M) [] w) (hlen : M.length ≤ 1048576) :
    Calls Try.prog 24 #[.func (.func 33) #[] #[.pointer (some ⟨cb, 0, none⟩)]] w fun e w' => ∃ A2 c2, e = .returned (.slice A2 M.length c2) ∧ w'.ownsRow w.heap.size 40 2 (.slice A2 M.length c2) M.length (flat2 M) ∧ Only [] w w' := by
  have t := appendseq_any hs0 hlen
  clear hs0
  go_enter Try.func24, Try.ntmps24
  go_wp2_with (fail)
  refine t.mono ?_
  clear t
  rintro e w1 ⟨A2, c2, rfl, W2, o2⟩
  have HW := Lib.hid W2
  have HO := Lib.hid o2
  clear W2 o2
  go_wp2_with (fail)
  go_ret
  exact ⟨A2, c2, rfl, HW.out, HO.out⟩
end Go.Proofs.Ytodiemichniehaa
