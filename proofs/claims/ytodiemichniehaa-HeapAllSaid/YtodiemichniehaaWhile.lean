/- While, as it is handed out. -/
import Derived.Test.YtodiemichniehaaIter
namespace Go.Proofs.Ytodiemichniehaa
open Go.RowKit Go.Kx
attribute [local go_sem] Oper.semAt_some
set_option maxRecDepth 100000

def lowE (e : Ent) : Bool := decide (e.2 ≤ 4)
def tw (m : List Ent) : List Ent := m.takeWhile lowE
def valsK (K : List Ent) : List (Array Value) := K.map fun e => #[.int .i64 e.1]
theorem tw_le (m : List Ent) : (tw m).length ≤ m.length := (List.takeWhile_sublist _).length_le
theorem tw_low : ∀ {m : List Ent} {k : Nat} {e : Ent}, k ≤ (tw m).length → m[k]? = some e → lowE e = true → k + 1 ≤ (tw m).length ∧ (tw m)[k]? = some e
  | [], k, e, _, h, _ => by simp at h
  | a :: m, 0, e, _, h, hl => by
    simp at h
    subst h
    unfold tw
    rw [List.takeWhile_cons_of_pos hl]
    simp
  | a :: m, k + 1, e, hk, h, hl => by
    by_cases ha : lowE a = true
    · have e1 : tw (a :: m) = a :: tw m := by unfold tw; rw [List.takeWhile_cons_of_pos ha]
      rw [e1] at hk ⊢
      have := tw_low (m := m) (k := k) (e := e) (by simpa using hk) (by simpa using h) hl
      exact ⟨by simp; omega, by simpa using this.2⟩
    · have e1 : tw (a :: m) = [] := by unfold tw; rw [List.takeWhile_cons_of_neg ha]
      rw [e1] at hk
      simp at hk
theorem tw_high : ∀ {m : List Ent} {k : Nat} {e : Ent}, k ≤ (tw m).length → m[k]? = some e → lowE e = false → (tw m).length = k
  | [], k, e, _, h, _ => by simp at h
  | a :: m, 0, e, _, h, hl => by
    simp at h
    subst h
    unfold tw
    rw [List.takeWhile_cons_of_neg (by rw [hl]; decide)]
    rfl
  | a :: m, k + 1, e, hk, h, hl => by
    by_cases ha : lowE a = true
    · have e1 : tw (a :: m) = a :: tw m := by unfold tw; rw [List.takeWhile_cons_of_pos ha]
      rw [e1] at hk ⊢
      have := tw_high (m := m) (k := k) (e := e) (by simpa using hk) (by simpa using h) hl
      simp [this]
    · have e1 : tw (a :: m) = [] := by unfold tw; rw [List.takeWhile_cons_of_neg ha]
      rw [e1] at hk
      simp at hk
theorem low_any (x : Int) {b : Bool} (h : decide (x ≤ 4) = b) (w : World) : Calls Try.prog 26 #[.int .i64 x] w fun e w' => e = .returned (.bool b) ∧ Only [] w w' := by
  go_enter Try.func26, Try.ntmps26
  go_wp2_with (fail)
  go_ret
  exact ⟨by rw [← h]; rfl, Only.refl _ _⟩
theorem round_in {n n' l0 : Nat} {P : Program} {l : Nat} {f : FuncId} {tmps : Array Value} {assign body : Code} {w : World} {R : Ending → World → Prop} (h : RoundIn Fence.wide n P l f tmps assign body w R) : RoundIn (Fence.wide.inRound l0) n' P l f tmps assign body w R :=
  ⟨h.1, fun c cs _ => h.2 c cs (room_wide _)⟩
theorem while_any (g : Nat) (w : World) :
    Calls Try.prog 27 #[.pointer (some ⟨g, 0, none⟩), .func (.func 26) #[] #[]] w fun e w' => e = .returned (.func (.func 35) #[] #[.pointer (some ⟨w.heap.size + 1, 0, none⟩), .pointer (some ⟨w.heap.size, 0, none⟩)]) ∧ w' = (w.alloc (.cells #[.pointer (some ⟨g, 0, none⟩)] 24)).alloc (.cells #[.func (.func 26) #[] #[]] 36) := by
  go_enter Try.func27, Try.ntmps27
  go_wp2_with (fail)
  go_ret
  exact ⟨rfl, rfl⟩
set_option maxHeartbeats 4000000 in
theorem while_seqs {B : Nat} {w : World} {g : Nat} {M0 : Option Nat} {L m : List Ent} {A : Option Addr} {c sb hb : Nat} (hH : HB B w g M0 L A c) (hS : HS L m) (hlen : L.length ≤ 1048576)
    (hs : Blk w sb 36 #[.func (.func 26) #[] #[]]) (hc : Blk w hb 24 #[.pointer (some ⟨g, 0, none⟩)]) :
    SeqsT Try.prog 35 #[.pointer (some ⟨sb, 0, none⟩), .pointer (some ⟨hb, 0, none⟩)] (valsK (tw m)) [sb] w := by
  intro l J Jx W S hK hl hlW hS0 hpr hJ hJx hY h0
  have bs := hK.blk hs
  have bc := hK.blk hc
  have hHW := hH.keepC hK (Nat.le_refl _)
  have hsbS : sb ∉ S := hpr sb (by simp)
  have hsl : sb < w.heap.size := hs.lt
  have hsW : sb < W.heap.size := bs.lt
  have e1 : (valsK (tw m)).length = (tw m).length := by simp [valsK]
  rw [e1]
  show Calls Try.prog 35 #[.func (.yield l) #[] #[], .pointer (some ⟨sb, 0, none⟩), .pointer (some ⟨hb, 0, none⟩)] W _
  obtain ⟨s0, sl⟩ := bs.facts1
  obtain ⟨b0, bl⟩ := bc.facts1
  have HJ := Lib.hid hJ
  have HJx := Lib.hid hJx
  have HY := Lib.hid hY
  have H0 := Lib.hid h0
  have HS0 := Lib.hid hS0
  have HHW := Lib.hid hHW
  have HBS := Lib.hid bs
  clear hH hs hc hK hJ hJx hY h0 hS0 hHW hpr bs bc e1
  have hE : ∀ V, (binOp .eql 36 (.func (.func 26) #[] #[]) .nilFunc).run Try.prog V = .ok (.bool false) V := fun V => by kernel_rfl
  refine calls_marks Try.func35 rfl ?_
  simp only [Try.ntmps35, List.size_toArray, List.length_cons, List.length_nil, Nat.reduceAdd, Nat.reduceSub, Array.replicate_succ, Array.replicate_zero, List.push_toArray, List.append_toArray, List.nil_append, List.cons_append]
  go_wp2_with (fail)
  refine (all_any _ (some ⟨g, 0, none⟩) rfl _).mono ?_
  rintro e w1 ⟨rfl, rfl⟩
  have htb : Blk ((W.alloc (.cells #[.func (.yield l) #[] #[]] 36)).alloc (.cells #[.pointer (some ⟨g, 0, none⟩)] 24)) W.heap.size 36 #[.func (.yield l) #[] #[]] := (Blk.new W 36 _).alloc _
  have hhb : Blk ((W.alloc (.cells #[.func (.yield l) #[] #[]] 36)).alloc (.cells #[.pointer (some ⟨g, 0, none⟩)] 24)) (W.heap.size + 1) 24 #[.pointer (some ⟨g, 0, none⟩)] := by have h := Blk.new (W.alloc (.cells #[.func (.yield l) #[] #[]] 36)) 24 #[.pointer (some ⟨g, 0, none⟩)]; simpa using h
  have ho : Only [] W ((W.alloc (.cells #[.func (.yield l) #[] #[]] 36)).alloc (.cells #[.pointer (some ⟨g, 0, none⟩)] 24)) := ((Only.refl _ _).alloc _).alloc _
  clear s0 sl b0 bl
  go_wp2_with (fail)
  generalize (W.alloc (.cells #[.func (.yield l) #[] #[]] 36)).alloc (.cells #[.pointer (some ⟨g, 0, none⟩)] 24) = w2 at htb hhb ho ⊢
  have hz := ho.size
  have htl := htb.lt
  have hsq := all_seqs (HHW.out.keep ho) hS hlen hhb
  have hsb2 := ho.blk HBS.out (by simp)
  have hJ2 := HJ.out _ _ _ _ H0.out (KeepT.grow ho)
  refine' wp_rangeFunc_seqsT (gf := 33) (lb := #[.pointer (some ⟨W.heap.size + 1, 0, none⟩)]) (vs := vals2 m) (prot := []) rfl (enters Try.func33 (by kernel_rfl) rfl)
    hsq (by intro v hv; simp [vals2] at hv; obtain ⟨_, _, _, rfl⟩ := hv; rfl) (l :: S) (by intro b hb; rcases List.mem_cons.1 hb with h | h; omega; have := HS0.out b h; omega) (by simp)
    (fun k T V => ∃ S', T = l :: S' ∧ J k S' V ∧ k ≤ (tw m).length ∧ Blk V W.heap.size 36 #[.func (.yield l) #[] #[]] ∧ Blk V sb 36 #[.func (.func 26) #[] #[]] ∧ (∀ b ∈ S', b ∈ S ∨ w2.heap.size ≤ b) ∧ w2.heap.size ≤ V.heap.size)
    (fun c T V => c = .ret ∧ (J (tw m).length T V ∨ Jx T V)) ?hI ?hIx ?h0
    _ (fun k V => V.alloc (.cells #[.int .i64 (gt_ m k).1, .int .i64 (gt_ m k).2] 40)) (fun k V => (Only.refl [] V).alloc _) ?assign ?body ?done ?stop
  case assign =>
    intro l k v W K hv hK
    obtain rfl : #[.agg #[.int .i64 (gt_ m k).1, .int .i64 (gt_ m k).2]] = v := by
      obtain ⟨e, he, rfl⟩ := vals2_at hv
      have e2 : gt_ m k = e := by unfold gt_; rw [he]; rfl
      rw [e2]
    clear hv
    gi_wp2
    exact hK
  case hI =>
    rintro k T V1 V2 ⟨S', rfl, h1, h2, h3, h4, h5, h6⟩ hk
    exact ⟨S', rfl, HJ.out _ _ _ _ h1 (hk.mono hz (fun b hb => List.mem_cons_of_mem _ hb)), h2, hk.blk h3 (.inl htl), hk.blk h4 (.inl (by omega)), h5, Nat.le_trans h6 hk.size⟩
  case hIx =>
    rintro c T V1 V2 ⟨h1, h2⟩ hk
    exact ⟨h1, h2.imp (fun h => HJ.out _ _ _ _ h (hk.mono hz (fun b hb => hb))) (fun h => HJx.out _ _ _ h (hk.mono hz (fun b hb => hb)))⟩
  case h0 => exact ⟨S, rfl, hJ2, Nat.zero_le _, htb, hsb2, fun b hb => .inl hb, Nat.le_refl _⟩
  case body =>
    rintro l2 k vv T V X hv ⟨S', rfl, hJk, hkt, htb, hsb, hSS, hXz⟩ hk
    obtain ⟨e, he, rfl⟩ := vals2_at hv
    have hkl : k < m.length := (List.getElem?_eq_some_iff.1 he).1
    clear hv
    have hxb := hk.blk (Blk.new V 40 #[.int .i64 (gt_ m k).1, .int .i64 (gt_ m k).2])
    have e2 : gt_ m k = e := by unfold gt_; rw [he]; rfl
    rw [e2] at hxb
    simp only [e2]
    obtain ⟨x0, x1, xl⟩ := hxb.facts2
    obtain ⟨t0, tl⟩ := htb.facts1
    obtain ⟨s0, sl⟩ := hsb.facts1
    have HXB := Lib.hid hxb
    have HTB := Lib.hid htb
    have HSB := Lib.hid hsb
    have HJk := Lib.hid hJk
    have HSS := Lib.hid hSS
    clear hxb htb hsb hJk hSS hk e2
    cases hlo : lowE e with
    | false =>
      have htw := tw_high hkt he hlo
      have hlo' : decide (e.2 ≤ 4) = false := hlo
      gi_wp2
      refine ⟨trivial, CallsIn.inRound l2 (callsIn_wide.2 ((low_any e.2 hlo' X).mono ?_))⟩
      rintro e' w4 ⟨rfl, o4⟩
      have HJ4 := Lib.hid (HJ.out _ _ _ _ HJk.out (KeepT.grow o4))
      have HO4 := Lib.hid o4
      clear o4 hlo hlo'
      gi_wp2
      first | (refine ⟨fun _ h => (by cases h), ?_⟩; gi_wp2) | skip
      exact ⟨⟨S', ⟨rfl, .inl (by rw [htw]; exact HJ4.out)⟩, fun b hb => .inl (List.mem_cons_of_mem _ hb)⟩, HO4.out.mono (fun _ h => by simp at h)⟩
    | true =>
      have htw := tw_low hkt he hlo
      have hlo' : decide (e.2 ≤ 4) = true := hlo
      have hvk : (valsK (tw m))[k]? = some #[.int .i64 e.1] := by unfold valsK; rw [List.getElem?_map, htw.2]; rfl
      gi_wp2
      refine ⟨trivial, CallsIn.inRound l2 (callsIn_wide.2 ((low_any e.2 hlo' X).mono ?_))⟩
      rintro e' w4 ⟨rfl, o4⟩
      have hJ4 := HJ.out _ _ _ _ HJk.out (KeepT.grow o4)
      have hx4 := o4.blk HXB.out (by simp)
      have ht4 := o4.blk HTB.out (by simp)
      have hs4 := o4.blk HSB.out (by simp)
      have hz4 := o4.size
      clear x0 x1 xl t0 tl s0 sl
      obtain ⟨x0, x1, xl⟩ := hx4.facts2
      obtain ⟨t0, tl⟩ := ht4.facts1
      obtain ⟨fn, tmps, assign, body, hy, hR⟩ := HY.out k S' _ _ hvk hJ4
      have HR := Lib.hid hR
      have HT4 := Lib.hid ht4
      have HS4 := Lib.hid hs4
      have HO4 := Lib.hid o4
      clear hJ4 hx4 ht4 hs4 o4 hR hlo hlo' HJk
      gi_wp2
      refine (round_in HR.out).mono ?_
      rintro e' W3 (⟨rfl, ⟨S3, hJ3, hS3⟩, ho3⟩ | ⟨rfl, ⟨S3, hJ3, hS3⟩, ho3⟩)
      · have htn : W.heap.size ∉ l :: S' := fun h => by
          rcases List.mem_cons.1 h with h | h
          · omega
          · rcases HSS.out _ h with h | h
            · have := HS0.out _ h; omega
            · omega
        have hsn : sb ∉ l :: S' := fun h => by
          rcases List.mem_cons.1 h with h | h
          · omega
          · rcases HSS.out _ h with h | h
            · exact hsbS h
            · omega
        have ht5 := ho3.blk HT4.out htn
        have hs5 := ho3.blk HS4.out hsn
        have HJ3 := Lib.hid hJ3
        have HO3 := Lib.hid ho3
        clear hJ3 ho3
        gi_wp2
        have o : Only (l :: S') X W3 := (HO4.out.mono (fun _ h => by simp at h)).trans HO3.out (fun _ h => .inl h)
        refine ⟨⟨l :: S3, ⟨S3, rfl, HJ3.out, htw.1, ht5, hs5, fun b hb => ?_, Nat.le_trans hXz o.size⟩, fun b hb => ?_⟩, o⟩
        · rcases hS3 b hb with h | h
          · exact HSS.out b h
          · right
            omega
        · rcases List.mem_cons.1 hb with h | h
          · exact .inl (by rw [h]; simp)
          · rcases hS3 b h with h | h
            · exact .inl (List.mem_cons_of_mem _ h)
            · exact .inr (by omega)
      · have HJ3 := Lib.hid hJ3
        have HO3 := Lib.hid ho3
        clear hJ3 ho3
        gi_wp2
        have o : Only (l :: S') X W3 := (HO4.out.mono (fun _ h => by simp at h)).trans HO3.out (fun _ h => .inl h)
        refine ⟨⟨S3, ⟨rfl, .inr HJ3.out⟩, fun b h => ?_⟩, o⟩
        rcases hS3 b h with h | h
        · exact .inl (List.mem_cons_of_mem _ h)
        · exact .inr (by omega)
  case done =>
    rintro D T V hD hDT ⟨S', rfl, hJk, hkt, htb, hsb, hSS, hXz⟩ hK
    have e1 : (vals2 m).length = m.length := by simp [vals2]
    rw [e1] at hJk hkt
    have e2 : (tw m).length = m.length := Nat.le_antisymm (tw_le m) hkt
    have HD := Lib.hid hK
    have HJk := Lib.hid hJk
    clear hK hJk htb hsb
    go_wp2_with (fail)
    refine ⟨by simp, .inl ⟨_, _, rfl, run_takeDeferred HD.out, ?_⟩⟩
    have hDS : D ∉ S' := fun h => hDT (List.mem_cons_of_mem _ h)
    exact ⟨_, results_none rfl _ _ _, ⟨_, rfl⟩, .inl ⟨S', by rw [e2]; exact HJ.out _ _ _ _ HJk.out (KeepT.putObj (by omega) hDS)⟩⟩
  case stop =>
    rintro D c T V hD hDT ⟨rfl, hJ2⟩ hK
    have HD := Lib.hid hK
    have HJ2 := Lib.hid hJ2
    clear hK hJ2
    go_wp2_with (fail)
    refine ⟨by simp, .inl ⟨_, _, rfl, run_takeDeferred HD.out, ?_⟩⟩
    refine ⟨_, results_none rfl _ _ _, ⟨_, rfl⟩, ?_⟩
    rcases HJ2.out with h | h
    · exact .inl ⟨T, HJ.out _ _ _ _ h (KeepT.putObj (by omega) hDT)⟩
    · exact .inr ⟨T, HJx.out _ _ _ h (KeepT.putObj (by omega) hDT)⟩
end Go.Proofs.Ytodiemichniehaa
