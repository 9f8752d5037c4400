/- Same, the program's, of two programs. -/
import Derived.Test.YtfnacnlaphpflaaDoorPSame
namespace Go.Proofs.YtfnacnlaphpflaaDoor
open Go.RowKit Go.Kx
open Go.Val (Tt)
set_option maxRecDepth 100000
set_option maxHeartbeats 4000000 in
theorem sameprog_any {A B : Option Addr} {c d : Nat} {us vs : List Md} {r s : ByteArray} {w : World} (hA : RowX Md.cs 14 Md.Li w A us) (hB : RowX Md.cs 14 Md.Li w B vs) :
    Calls Tryd.prog 25 #[.agg #[.slice A us.length c, .string r], .agg #[.slice B vs.length d, .string s]] w fun e w' => e = .returned (.bool (sameP us vs r s)) ∧ Only [] w w' := by
  have K0 := Lib.hid (fun W (o : Only [] w W) => (show Calls Tryd.prog 44 #[.slice A us.length c, .slice B vs.length d, .func (.func 45) #[] #[]] W fun e w' => e = .returned (.bool (alikeG Md.same us vs)) ∧ Only [] W w' from alike_Md 45 Md.same eg45 (ca := c) (cb := d) (hA.keep Md.Li.keep o) (hB.keep Md.Li.keep o) (fun a _ b _ w' h1 h2 => sameMd_any h1 h2)))
  have HE := Lib.hid (show sameP us vs r s = (eqS r s && alikeG Md.same us vs) from rfl)
  obtain ⟨q, hq⟩ : ∃ q, alikeG Md.same us vs = q := ⟨_, rfl⟩
  rw [hq] at HE K0
  clear hq hA hB
  rw [HE.out]
  have h0 := Blk.new w 39 #[.slice A us.length c, .string r]
  have h1 := Blk.new (w.alloc (.cells #[.slice A us.length c, .string r] 39)) 39 #[.slice B vs.length d, .string s]
  simp only [World.size_alloc] at h1
  have HX0 := Lib.hid (show Blk ((w.alloc (.cells #[.slice A us.length c, .string r] 39)).alloc (.cells #[.slice B vs.length d, .string s] 39)) w.heap.size 39 #[.slice A us.length c, .string r] from h0.alloc _)
  have HY0 := Lib.hid h1
  have HO0 := Lib.hid (show Only [] w ((w.alloc (.cells #[.slice A us.length c, .string r] 39)).alloc (.cells #[.slice B vs.length d, .string s] 39)) from ((Only.refl [] w).alloc _).alloc _)
  clear h0 h1 HE
  obtain ⟨bx0, bx1, bxl⟩ := HX0.out.facts2
  obtain ⟨by0, by1, byl⟩ := HY0.out.facts2
  go_enter Tryd.func25, Tryd.ntmps25
  by_cases e0 : r.toList = s.toList
  · have e0b : (r.toList == s.toList) = true := by simp [e0]
    go_wp2_with (fail)
    refine (K0.out _ HO0.out).mono ?_
    rintro e w1 ⟨rfl, o1⟩
    have HO1 := Lib.hid (HO0.out.trans o1 (by simp))
    clear o1 bx0 bx1 bxl by0 by1 byl
    go_wp2_with (fail)
    go_ret
    exact ⟨by simp [eqS, e0], HO1.out⟩
  · have e0b : (r.toList == s.toList) = false := by simp [e0]
    go_wp2_with (fail)
    go_ret
    exact ⟨by simp [eqS, e0], HO0.out⟩
theorem eqS_refl (a : ByteArray) : eqS a a = true := by simp [eqS]
theorem alikeG_refl {α : Type} {p : α → α → Bool} : ∀ l : List α, (∀ a ∈ l, p a a = true) → alikeG p l l = true
  | [], _ => rfl
  | a :: l, h => by
    show (p a a && alikeG p l l) = true
    rw [h a (by simp), alikeG_refl l (fun b hb => h b (by simp [hb]))]; rfl
theorem exsB_refl : ∀ l : List Ex, exsB l l = true
  | [] => rfl
  | a :: l => by
    show (a.tr.same a.tr && exsB l l) = true
    rw [same_refl, exsB_refl l]; rfl
theorem tt_refl (t : Tt) : t.same t = true := (Tt.same_iff _ _).2 rfl
theorem Po.same_refl (a : Po) : a.same a = true := by simp [Po.same, eqS_refl, tt_refl]
theorem Se.same_refl (a : Se) : a.same a = true := by simp [Se.same, eqS_refl, Go.Proofs.YtfnacnlaphpflaaDoor.same_refl]
theorem Em.same_refl (a : Em) : a.same a = true := by simp [Em.same, eqS_refl, Go.Proofs.YtfnacnlaphpflaaDoor.same_refl, exsB_refl]
theorem Pa.same_refl (a : Pa) : a.same a = true := by simp [Pa.same, eqS_refl]
theorem Lk.same_refl (a : Lk) : a.same a = true := by simp [Lk.same, eqS_refl]
theorem Ac.same_refl (a : Ac) : a.same a = true := by simp [Ac.same, eqS_refl]
theorem Ru.same_refl (a : Ru) : a.same a = true := by simp [Ru.same, Go.Proofs.YtfnacnlaphpflaaDoor.same_refl, alikeG_refl _ (fun a _ => Ac.same_refl a)]
theorem Md.same_refl (a : Md) : a.same a = true := by
  simp [Md.same, eqS_refl, exsB_refl, alikeG_refl _ (fun a _ => Po.same_refl a), alikeG_refl _ (fun a _ => Se.same_refl a), alikeG_refl _ (fun a _ => Em.same_refl a), alikeG_refl _ (fun a _ => Pa.same_refl a), alikeG_refl _ (fun a _ => Lk.same_refl a), alikeG_refl _ (fun a _ => Ru.same_refl a)]
/-- a program is alike to itself -/
theorem sameP_refl (us : List Md) (r : ByteArray) : sameP us us r r = true := by simp [sameP, eqS_refl, alikeG_refl _ (fun a _ => Md.same_refl a)]
end Go.Proofs.YtfnacnlaphpflaaDoor
