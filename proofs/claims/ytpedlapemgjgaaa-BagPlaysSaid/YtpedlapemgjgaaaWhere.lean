/- Where, as it is handed out. -/
import Derived.Test.YtpedlapemgjgaaaIter
namespace Go.Proofs.Ytpedlapemgjgaaa
open Go.RowKit Go.Kx Go.Bag
attribute [local go_sem] Oper.semAt_some
set_option maxRecDepth 100000
/-- what stands at a place -/
def gi (L : List Int) (k : Nat) : Int := L.getD k 0
theorem gi_at {L : List Int} {k : Nat} {x : Int} (h : L[k]? = some x) : gi L k = x := by unfold gi; rw [List.getD_eq_getElem?_getD, h]; rfl
def evB (x : Int) : Bool := x.tmod 2 == 0
def evs (L : List Int) : List Int := L.filter evB
def valsE (L : List Int) : List (Array Value) := L.map fun x => #[Value.int .i64 x]
theorem take_filter {L : List Int} {k : Nat} {x : Int} (h : L[k]? = some x) : evs (L.take (k + 1)) = if evB x = true then evs (L.take k) ++ [x] else evs (L.take k) := by
  rw [take_succ_of h]
  unfold evs
  rw [List.filter_append]
  by_cases hx : evB x = true
  · rw [if_pos hx, List.filter_cons_of_pos hx]; rfl
  · rw [if_neg hx, List.filter_cons_of_neg hx]; simp
theorem evs_at {L : List Int} {k : Nat} {x : Int} (h : L[k]? = some x) (hx : evB x = true) : (evs L)[(evs (L.take k)).length]? = some x := by
  have hk : k < L.length := (List.getElem?_eq_some_iff.1 h).1
  have e : L = (L.take k ++ [x]) ++ L.drop (k + 1) := by rw [← take_succ_of h, List.take_append_drop]
  have e2 : evs L = (evs (L.take k) ++ [x]) ++ evs (L.drop (k + 1)) := by
    conv => lhs; rw [e]
    unfold evs
    rw [List.filter_append, List.filter_append, List.filter_cons_of_pos hx]
    rfl
  rw [e2, List.append_assoc, List.getElem?_append_right (Nat.le_refl _), Nat.sub_self]
  rfl
theorem evs_le (L : List Int) : (evs L).length ≤ L.length := List.length_filter_le _ _
theorem round_in {n n' l0 : Nat} {P : Program} {l : Nat} {f : FuncId} {tmps : Array Value} {assign body : Code} {w : World} {R : Ending → World → Prop} (h : RoundIn Fence.wide n P l f tmps assign body w R) : RoundIn (Fence.wide.inRound l0) n' P l f tmps assign body w R :=
  ⟨h.1, fun c cs _ => h.2 c cs (room_wide _)⟩
theorem evb_any (x : Int) {b : Bool} (h : evB x = b) (w : World) : Calls Try.prog 17 #[.int .i64 x] w fun e w' => e = .returned (.bool b) ∧ Only [] w w' :=
  (even_any x w).mono (by rintro e w' ⟨rfl, o⟩; exact ⟨by rw [← h]; rfl, o⟩)
theorem where_any (g : Nat) (w : World) :
    Calls Try.prog 18 #[.pointer (some ⟨g, 0, none⟩), .func (.func 17) #[] #[]] w fun e w' => e = .returned (.func (.func 39) #[] #[.pointer (some ⟨w.heap.size + 1, 0, none⟩), .pointer (some ⟨w.heap.size, 0, none⟩)]) ∧ w' = (w.alloc (.cells #[.pointer (some ⟨g, 0, none⟩)] 24)).alloc (.cells #[.func (.func 17) #[] #[]] 37) := by
  go_enter Try.func18, Try.ntmps18
  go_wp2_with (fail)
  go_ret
  exact ⟨rfl, rfl⟩
set_option maxHeartbeats 4000000 in
theorem where_seqs {B : Nat} {w : World} {g sb hb : Nat} {L : List Int} {A : Option Addr} {c : Nat} (hT : BBI B w g L A c) (hl6 : L.length ≤ 1000000)
    (hs : Blk w sb 37 #[.func (.func 17) #[] #[]]) (hc : Blk w hb 24 #[.pointer (some ⟨g, 0, none⟩)]) :
    SeqsT Try.prog 39 #[.pointer (some ⟨sb, 0, none⟩), .pointer (some ⟨hb, 0, none⟩)] (valsE (evs L)) (sb :: g :: blkA A) w := by
  intro l J Jx W S hK hl hlW hS0 hpr hJ hJx hY h0
  have bs := hK.blk hs
  have bc := hK.blk hc
  have hHW := hT.keepC hK
  have hsbS : sb ∉ S := hpr sb (by simp)
  have HPR := Lib.hid (show ∀ b ∈ g :: blkA A, b ∉ S ∧ b < w.heap.size from fun b hb => ⟨hpr b (List.mem_cons_of_mem _ hb), by
    rcases List.mem_cons.1 hb with h | h
    · rw [h]; exact hT.blk.lt
    · exact (blkA_lt hT b h).2⟩)
  have hsl : sb < w.heap.size := hs.lt
  have hsW : sb < W.heap.size := bs.lt
  have hwW := hK.size
  have e1 : (valsE (evs L)).length = (evs L).length := by simp [valsE]
  rw [e1]
  show Calls Try.prog 39 #[.func (.yield l) #[] #[], .pointer (some ⟨sb, 0, none⟩), .pointer (some ⟨hb, 0, none⟩)] W _
  obtain ⟨s0, sl⟩ := bs.facts1
  obtain ⟨b0, bl⟩ := bc.facts1
  have HJ := Lib.hid hJ
  have HJx := Lib.hid hJx
  have HY := Lib.hid hY
  have H0 := Lib.hid h0
  have HS0 := Lib.hid hS0
  have HHW := Lib.hid hHW
  have HBS := Lib.hid bs
  clear hT hs hc hK hJ hJx hY h0 hS0 hHW hpr bs bc e1
  have hE : ∀ V, (binOp .eql 37 (.func (.func 17) #[] #[]) .nilFunc).run Try.prog V = .ok (.bool false) V := fun V => by
    have h : ∀ d, (Op.equalIn (d + 1) 37 (.func (.func 17) #[] #[]) .nilFunc).run Try.prog V = .ok false V := fun d => by simp [Op.equalIn, run_underlying Try.underlying37]
    simp only [binOp]
    simp [Op.equal, Op.maxDepth, h 9999]
  refine calls_marks Try.func39 rfl ?_
  simp only [Try.ntmps39, List.size_toArray, List.length_cons, List.length_nil, Nat.reduceAdd, Nat.reduceSub, Array.replicate_succ, Array.replicate_zero, List.push_toArray, List.append_toArray, List.nil_append, List.cons_append]
  go_wp2_with (fail)
  refine (all_any (some ⟨g, 0, none⟩) _).mono ?_
  rintro e w1 ⟨rfl, rfl⟩
  have htb : Blk ((W.alloc (.cells #[.func (.yield l) #[] #[]] 37)).alloc (.cells #[.pointer (some ⟨g, 0, none⟩)] 24)) W.heap.size 37 #[.func (.yield l) #[] #[]] := (Blk.new W 37 _).alloc _
  have hhb : Blk ((W.alloc (.cells #[.func (.yield l) #[] #[]] 37)).alloc (.cells #[.pointer (some ⟨g, 0, none⟩)] 24)) (W.heap.size + 1) 24 #[.pointer (some ⟨g, 0, none⟩)] := by have h := Blk.new (W.alloc (.cells #[.func (.yield l) #[] #[]] 37)) 24 #[.pointer (some ⟨g, 0, none⟩)]; simpa using h
  have ho : Only [] W ((W.alloc (.cells #[.func (.yield l) #[] #[]] 37)).alloc (.cells #[.pointer (some ⟨g, 0, none⟩)] 24)) := ((Only.refl _ _).alloc _).alloc _
  clear s0 sl b0 bl
  go_wp2_with (fail)
  generalize (W.alloc (.cells #[.func (.yield l) #[] #[]] 37)).alloc (.cells #[.pointer (some ⟨g, 0, none⟩)] 24) = w2 at htb hhb ho ⊢
  have hz := ho.size
  have htl := htb.lt
  have hhl := hhb.lt
  have hsq := all_seqs (HHW.out.keep ho) hl6 hhb
  have hsb2 := ho.blk HBS.out (by simp)
  have hJ2 := HJ.out _ _ _ _ H0.out (KeepT.grow ho)
  refine' wp_rangeFunc_seqsT (gf := 36) (lb := #[.pointer (some ⟨W.heap.size + 1, 0, none⟩)]) (vs := pairs 0 L) (prot := (W.heap.size + 1) :: g :: blkA A) rfl (enters Try.func36 (by kernel_rfl) rfl)
    hsq (by
      intro v hv
      obtain ⟨k, hk⟩ := List.mem_iff_getElem?.1 hv
      obtain ⟨x, _, rfl⟩ := pairs_has hk
      rfl) (l :: S) (by intro b hb; rcases List.mem_cons.1 hb with h | h; omega; have := HS0.out b h; omega)
    (by
      intro b hb hm
      rcases List.mem_cons.1 hb with h | h
      · subst h
        rcases List.mem_cons.1 hm with h | h
        · omega
        · have := HS0.out _ h; omega
      · obtain ⟨h1, h2⟩ := HPR.out b h
        rcases List.mem_cons.1 hm with h | h
        · omega
        · exact h1 h)
    (fun k T V => ∃ S', T = l :: S' ∧ k ≤ L.length ∧ J (evs (L.take k)).length S' V ∧ Blk V W.heap.size 37 #[.func (.yield l) #[] #[]] ∧ Blk V sb 37 #[.func (.func 17) #[] #[]] ∧ (∀ b ∈ S', b ∈ S ∨ w2.heap.size ≤ b) ∧ w2.heap.size ≤ V.heap.size)
    (fun c T V => c = .ret ∧ Jx T V) ?hI ?hIx ?h0
    _ (fun k V => V) (fun k V => Only.refl [] V) ?assign ?body ?done ?stop
  case assign =>
    intro l k v w K hv hK
    obtain ⟨x, hx, rfl⟩ := pairs_has hv
    obtain rfl : gi L k = x := gi_at hx
    clear hv hx
    gi_wp2
    exact hK
  case hI =>
    rintro k T V1 V2 ⟨S', rfl, h0, h1, h3, h4, h5, h6⟩ hk
    exact ⟨S', rfl, h0, HJ.out _ _ _ _ h1 (hk.mono hz (fun b hb => List.mem_cons_of_mem _ hb)), hk.blk h3 (.inl htl), hk.blk h4 (.inl (by omega)), h5, Nat.le_trans h6 hk.size⟩
  case hIx =>
    rintro c T V1 V2 ⟨h1, h2⟩ hk
    exact ⟨h1, HJx.out _ _ _ h2 (hk.mono hz (fun b hb => hb))⟩
  case h0 => exact ⟨S, rfl, Nat.zero_le _, hJ2, htb, hsb2, fun b hb => .inl hb, Nat.le_refl _⟩
  case body =>
    rintro l2 k vv T V X hv ⟨S', rfl, hkt, hJk, htb, hsb, hSS, hXz⟩ hk
    obtain ⟨x, hx, rfl⟩ := pairs_has hv
    have hgx : gi L k = x := gi_at hx
    simp only [hgx]
    obtain ⟨t0, tl⟩ := htb.facts1
    obtain ⟨s0, sl⟩ := hsb.facts1
    have HTB := Lib.hid htb
    have HSB := Lib.hid hsb
    have HJk := Lib.hid hJk
    have HSS := Lib.hid hSS
    have HX := Lib.hid hx
    have hkl : k < L.length := (List.getElem?_eq_some_iff.1 hx).1
    have HTF := Lib.hid (take_filter hx)
    clear htb hsb hJk hSS hk hv hx hgx hl6
    cases hlo : evB x with
    | false =>
      have HT2 := Lib.hid (show evs (L.take (k + 1)) = evs (L.take k) by rw [HTF.out, if_neg (by rw [hlo]; decide)])
      gi_wp2
      refine ⟨trivial, CallsIn.inRound l2 (callsIn_wide.2 ((evb_any x hlo X).mono ?_))⟩
      rintro e' w4 ⟨rfl, o4⟩
      have HJ4 := Lib.hid (HJ.out _ _ _ _ HJk.out (KeepT.grow o4))
      have HO4 := Lib.hid o4
      have HT4 := Lib.hid (o4.blk HTB.out (by simp))
      have HS4 := Lib.hid (o4.blk HSB.out (by simp))
      clear o4 hlo t0 tl s0 sl
      gi_wp2
      first | (refine ⟨fun _ h => (by cases h), ?_⟩; gi_wp2) | skip
      refine ⟨⟨l :: S', ⟨S', rfl, by omega, by rw [HT2.out]; exact HJ4.out, HT4.out, HS4.out, HSS.out, Nat.le_trans hXz HO4.out.size⟩, fun b hb => .inl hb⟩, HO4.out.mono (fun _ h => by simp at h)⟩
    | true =>
      have HT2 := Lib.hid (show (evs (L.take (k + 1))).length = (evs (L.take k)).length + 1 by rw [HTF.out, if_pos hlo, List.length_append]; rfl)
      have hvk : (valsE (evs L))[(evs (L.take k)).length]? = some #[Value.int .i64 x] := by unfold valsE; rw [List.getElem?_map, evs_at HX.out hlo]; rfl
      gi_wp2
      refine ⟨trivial, CallsIn.inRound l2 (callsIn_wide.2 ((evb_any x hlo X).mono ?_))⟩
      rintro e' w4 ⟨rfl, o4⟩
      have hJ4 := HJ.out _ _ _ _ HJk.out (KeepT.grow o4)
      have ht4 := o4.blk HTB.out (by simp)
      have hs4 := o4.blk HSB.out (by simp)
      have hz4 := o4.size
      clear t0 tl s0 sl
      obtain ⟨t0, tl⟩ := ht4.facts1
      obtain ⟨fn, tmps, assign, body, hy, hR⟩ := HY.out _ S' _ _ hvk hJ4
      have HR := Lib.hid hR
      have HT4 := Lib.hid ht4
      have HS4 := Lib.hid hs4
      have HO4 := Lib.hid o4
      clear hJ4 ht4 hs4 o4 hR hlo HJk hvk
      gi_wp2
      refine (round_in HR.out).mono ?_
      rintro e' W3 (⟨rfl, ⟨S3, hJ3, hS3⟩, ho3⟩ | ⟨rfl, ⟨S3, hJ3, hS3⟩, ho3⟩)
      · have htn : W.heap.size ∉ l :: S' := fun h => by
          rcases List.mem_cons.1 h with h | h
          · omega
          · rcases HSS.out _ h with h | h
            · have := HS0.out _ h; omega
            · omega
        have hsn : sb ∉ l :: S' := fun h => by
          rcases List.mem_cons.1 h with h | h
          · omega
          · rcases HSS.out _ h with h | h
            · exact hsbS h
            · omega
        have ht5 := ho3.blk HT4.out htn
        have hs5 := ho3.blk HS4.out hsn
        have HJ3 := Lib.hid hJ3
        have HO3 := Lib.hid ho3
        clear hJ3 ho3
        gi_wp2
        have o : Only (l :: S') X W3 := (HO4.out.mono (fun _ h => by simp at h)).trans HO3.out (fun _ h => .inl h)
        refine ⟨⟨l :: S3, ⟨S3, rfl, by omega, by rw [HT2.out]; exact HJ3.out, ht5, hs5, fun b hb => ?_, Nat.le_trans hXz o.size⟩, fun b hb => ?_⟩, o⟩
        · rcases hS3 b hb with h | h
          · exact HSS.out b h
          · right
            omega
        · rcases List.mem_cons.1 hb with h | h
          · exact .inl (by rw [h]; simp)
          · rcases hS3 b h with h | h
            · exact .inl (List.mem_cons_of_mem _ h)
            · exact .inr (by omega)
      · have HJ3 := Lib.hid hJ3
        have HO3 := Lib.hid ho3
        clear hJ3 ho3
        gi_wp2
        have o : Only (l :: S') X W3 := (HO4.out.mono (fun _ h => by simp at h)).trans HO3.out (fun _ h => .inl h)
        refine ⟨⟨S3, ⟨rfl, HJ3.out⟩, fun b h => ?_⟩, o⟩
        rcases hS3 b h with h | h
        · exact .inl (List.mem_cons_of_mem _ h)
        · exact .inr (by omega)
  case done =>
    rintro D T V hD hDT ⟨S', rfl, hkt, hJk, htb, hsb, hSS, hXz⟩ hK
    rw [pairs_len, List.take_length] at hJk
    have HD := Lib.hid hK
    have HJk := Lib.hid hJk
    clear hK hJk htb hsb
    go_wp2_with (fail)
    refine ⟨by simp, .inl ⟨_, _, rfl, run_takeDeferred HD.out, ?_⟩⟩
    have hDS : D ∉ S' := fun h => hDT (List.mem_cons_of_mem _ h)
    exact ⟨_, results_none rfl _ _ _, ⟨_, rfl⟩, .inl ⟨S', HJ.out _ _ _ _ HJk.out (KeepT.putObj (by omega) hDS)⟩⟩
  case stop =>
    rintro D c T V hD hDT ⟨rfl, hJ2⟩ hK
    have HD := Lib.hid hK
    have HJ2 := Lib.hid hJ2
    clear hK hJ2
    go_wp2_with (fail)
    refine ⟨by simp, .inl ⟨_, _, rfl, run_takeDeferred HD.out, ?_⟩⟩
    exact ⟨_, results_none rfl _ _ _, ⟨_, rfl⟩, .inr ⟨T, HJx.out _ _ _ HJ2.out (KeepT.putObj (by omega) hDT)⟩⟩
end Go.Proofs.Ytpedlapemgjgaaa
