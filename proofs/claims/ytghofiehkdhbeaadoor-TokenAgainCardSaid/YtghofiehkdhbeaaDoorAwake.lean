/- The document's example. -/
import Derived.Test.YtghofiehkdhbeaaDoorPlain
namespace Go.Proofs.YtghofiehkdhbeaaDoor
open Go.RowKit Go.Kx Go.Tok
set_option maxRecDepth 100000

def exW : List Word := [⟨⟨0, [120], 0⟩, 0⟩, ⟨⟨3, [60, 61], 0⟩, 1⟩, ⟨⟨1, [], 1⟩, 3⟩, ⟨⟨4, [], 0⟩, 7⟩]
theorem ex_scan : scanR ⟨#[120, 60, 61, 49, 32, 35, 121]⟩ = (exW, none) := by rfl
theorem exF : (flatW exW).toArray = #[.int .i64 0, .string ⟨#[120]⟩, .int .i64 0, .int .i64 0, .int .i64 3, .string ⟨#[60, 61]⟩, .int .i64 0, .int .i64 1, .int .i64 1, .string ⟨#[]⟩, .int .i64 1, .int .i64 3, .int .i64 4, .string ⟨#[]⟩, .int .i64 0, .int .i64 7] := by rfl
theorem blk_rowW {W : World} {z : Nat} {t : TypeId} {M : List Word} (h : Blk W z t (flatW M).toArray) : RowW W (some ⟨z, 0, none⟩) M := fun j u hu =>
  ⟨z, 0, rfl, h.lt, by rw [Nat.zero_add, h.cell]; simpa using hu⟩
theorem row_nil (w : World) (A : Option Addr) : RowW w A [] := fun j u h => by simp [flatW] at h
set_option maxHeartbeats 2000000 in
theorem awake_any {w : World} (hT : Tabs w) : Calls Tryd.prog 7 #[] w fun r w' => r = .returned (.bool true) ∧ Only [] w w' := by
  have C := Lib.hid (scan_any ⟨#[120, 60, 61, 49, 32, 35, 121]⟩ (by decide) hT)
  have HE := Lib.hid ex_scan
  clear hT
  go_enter Tryd.func7, Tryd.ntmps7
  go_wp2_with (fail)
  refine C.out.mono ?_
  rintro r w1 ⟨o1, hp⟩
  rw [HE.out] at hp
  obtain ⟨A, c, rfl, how⟩ := hp
  have HO1 := Lib.hid o1
  have HP := Lib.hid (plain_any (c := c) (own_rowW rfl how) (by decide))
  clear o1 how
  go_wp2_with (fail)
  refine HP.out.mono ?_
  rintro r w2 ⟨⟨A', c', rfl, how2⟩, o2⟩
  have HO2 := Lib.hid (HO1.out.trans o2 (by simp))
  have hrow := own_rowW rfl how2
  have hlit : Blk (w2.alloc (.cells #[.int .i64 0, .string ⟨#[120]⟩, .int .i64 0, .int .i64 0, .int .i64 3, .string ⟨#[60, 61]⟩, .int .i64 0, .int .i64 1, .int .i64 1, .string ⟨#[]⟩, .int .i64 1, .int .i64 3, .int .i64 4, .string ⟨#[]⟩, .int .i64 0, .int .i64 7] 41)) w2.heap.size 41 (flatW exW).toArray := by rw [exF]; exact Blk.new w2 41 _
  have o3 : Only [] w2 (w2.alloc (.cells #[.int .i64 0, .string ⟨#[120]⟩, .int .i64 0, .int .i64 0, .int .i64 3, .string ⟨#[60, 61]⟩, .int .i64 0, .int .i64 1, .int .i64 1, .string ⟨#[]⟩, .int .i64 1, .int .i64 3, .int .i64 4, .string ⟨#[]⟩, .int .i64 0, .int .i64 7] 41)) := (Only.refl _ _).alloc _
  have HS := Lib.hid (show Calls Tryd.prog 11 #[.slice A' exW.length c', .slice (some ⟨w2.heap.size, 0, none⟩) 4 4] _ (fun r w' => r = .returned (.bool true) ∧ Only [] _ w') from (rsame_any (L := exW) (M := exW) (A := A') (A' := some ⟨w2.heap.size, 0, none⟩) (c := c') (c' := 4) (hrow.keep o3) (blk_rowW hlit) (by decide) (by decide)).mono (fun e w' h => ⟨by rw [h.1]; simp, h.2⟩))
  have HO3 := Lib.hid (HO2.out.trans o3 (by simp))
  clear o2 how2 hrow hlit o3
  go_wp2_with (fail)
  refine HS.out.mono ?_
  rintro r w4 ⟨rfl, o4⟩
  have HO4 := Lib.hid (HO3.out.trans o4 (by simp))
  clear o4 HS HP C HE
  go_wp2_with (fail)
  go_ret
  exact ⟨rfl, HO4.out⟩
end Go.Proofs.YtghofiehkdhbeaaDoor
