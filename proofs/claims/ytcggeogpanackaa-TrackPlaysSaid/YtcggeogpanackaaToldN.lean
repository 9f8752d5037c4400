/- A nil track: what it tells. -/
import Derived.Test.YtcggeogpanackaaAwake
import Derived.Test.YtcggeogpanackaaRangeA
namespace Go.Proofs.Ytcggeogpanackaa
open Go.RowKit Go.Kx
attribute [local go_sem] Oper.semAt_some
set_option maxRecDepth 100000

theorem all_any (v : Value) (q : Option Addr) (hv : v = .pointer q) (w : World) :
    Calls Try.prog 18 #[v] w fun e w' => e = .returned (.func (.func 39) #[] #[.pointer (some ⟨w.heap.size, 0, none⟩)]) ∧ w' = w.alloc (.cells #[v] 28) := by
  subst hv
  go_enter Try.func18, Try.ntmps18
  go_wp2_with (fail)
  go_ret
  exact ⟨rfl, rfl⟩
theorem all_seqs_nil {c : Nat} {w : World} {prot : List Nat} (hc : Blk w c 28 #[.pointer none]) : Seqs Try.prog 39 #[.pointer (some ⟨c, 0, none⟩)] [] prot w := by
  intro l J Jx W S hK hl hlW hS hpr hJ hY h0
  have cc := (hK.blk hc).cell 0
  simp at cc
  have H0 := Lib.hid h0
  clear hc hJ hY h0 hK
  show Calls Try.prog 39 #[.func (.yield l) #[] #[], .pointer (some ⟨c, 0, none⟩)] W _
  go_enter Try.func39, Try.ntmps39
  go_wp2_with (fail)
  go_end0
  exact ⟨⟨_, rfl⟩, .inl ⟨S, H0.out⟩⟩
set_option maxHeartbeats 2000000 in
theorem told_nil (w : World) : Calls Try.prog 19 #[.pointer none] w fun e w' => e = .returned (.slice none 0 0) ∧ Only [] w w' := by
  refine calls_marks Try.func19 rfl ?_
  simp only [Try.ntmps19, List.size_toArray, List.length_cons, List.length_nil, Nat.reduceAdd, Nat.reduceSub, Array.replicate_succ, Array.replicate_zero, List.push_toArray, List.append_toArray, List.nil_append, List.cons_append]
  go_wp2_with (fail)
  refine (all_any _ none rfl _).mono ?_
  rintro e w1 ⟨rfl, rfl⟩
  have hb : Blk ((w.alloc (.cells #[.slice none 0 0] 32)).alloc (.cells #[.pointer none] 28)) (w.heap.size + 1) 28 #[.pointer none] := by have h := Blk.new (w.alloc (.cells #[.slice none 0 0] 32)) 28 #[.pointer none]; simpa using h
  have hr : Blk ((w.alloc (.cells #[.slice none 0 0] 32)).alloc (.cells #[.pointer none] 28)) w.heap.size 32 #[.slice none 0 0] := (Blk.new w 32 _).alloc _
  have ho : Only [] w ((w.alloc (.cells #[.slice none 0 0] 32)).alloc (.cells #[.pointer none] 28)) := ((Only.refl _ _).alloc _).alloc _
  go_wp2_with (fail)
  generalize (w.alloc (.cells #[.slice none 0 0] 32)).alloc (.cells #[.pointer none] 28) = w2 at hb hr ho ⊢
  have hs := ho.size
  have hrl := hr.lt
  have hbl := hb.lt
  refine wp_rangeFunc_seqsA (gf := 39) (lb := #[.pointer (some ⟨w.heap.size + 1, 0, none⟩)]) (vs := []) (prot := []) rfl (enters Try.func39 (by kernel_rfl) rfl)
    (all_seqs_nil hb) (by simp) [] (by simp) (by simp)
    (fun k S W => Blk W w.heap.size 32 #[.slice none 0 0] ∧ Only [] w W ∧ S = []) (fun _ _ => False) ?hI (fun _ _ _ h _ => h) ?h0
    (fun _ _ => { tmps := #[], defers := [] }) (fun _ W => W) (fun _ W => Only.refl [] W) ?assign ?body ?done (fun _ _ _ _ h _ => h.elim)
  case hI =>
    rintro k S W1 W2 ⟨h1, h2, h3⟩ hk
    exact ⟨hk.blk h1, h2.keepC hk (by omega), h3⟩
  case h0 => exact ⟨hr, ho, rfl⟩
  case assign => intro l k v W K hv; simp at hv
  case body => intro l k vv S V W hv; simp at hv
  case done =>
    rintro D S W hD ⟨hb1, hO, rfl⟩ hK
    obtain ⟨c0, cl⟩ := hb1.facts1
    go_wp2_with (fail)
    refine ⟨by simp, .inl ⟨_, _, rfl, run_takeDeferred hK, ?_⟩⟩
    have hk := KeepC.putObj (B := D) (o' := .deferred none) hK rfl (Nat.le_refl _)
    exact ⟨_, results_tmp rfl _ _ _, rfl, hO.keepC hk (by omega)⟩
theorem set_nil (s : St) (x : Int) (w : World) : Calls Try.prog 22 #[.pointer none, .agg #[.int .i64 s.1.1, .int .i64 s.1.2, .int .i64 s.2], .int .i64 x] w fun e w' => e = .returned (.bool false) ∧ Only [] w w' := by
  go_enter Try.func22, Try.ntmps22
  go_wp2_with (fail)
  go_ret
  exact ⟨rfl, (Only.refl _ _).alloc _⟩
end Go.Proofs.Ytcggeogpanackaa
