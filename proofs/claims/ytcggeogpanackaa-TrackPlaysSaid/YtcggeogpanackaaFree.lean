/- Free. -/
import Derived.Test.YtcggeogpanackaaBackA
namespace Go.Proofs.Ytcggeogpanackaa
open Go.RowKit Go.Kx
set_option maxRecDepth 20000

set_option maxHeartbeats 4000000 in
theorem free_any {B : Nat} {w : World} {g : Nat} {room : Int} {L : List En} {A : Option Addr} {c : Nat} {s : St} (hT : TB B w g room L A c) (hk : Trk L) (os : s.ok) (rs : stR s = true) (hlen : L.length ≤ 1048576) :
    Calls Try.prog 17 #[.pointer (some ⟨g, 0, none⟩), .agg #[.int .i64 s.1.1, .int .i64 s.1.2, .int .i64 s.2]] w fun e w' => ∃ v, e = .returned v ∧ IntsAt w' w.heap.size v ((L.take (aheadT L s)).map (·.2)) ∧ TB B w' g room (L.drop (aheadT L s)) A c ∧ Only (g :: A.toList.map (·.block)) w w' := by
  obtain ⟨n, hn⟩ : ∃ n, L.length = n := ⟨_, rfl⟩
  have hf := hT.own
  rw [hn] at hf
  have HK := Lib.hid hk
  have HT := Lib.hid hT
  have RS := Lib.hid rs
  have h20 : n ≤ 1048576 := by omega
  rcases own_form hf with ⟨rfl, h0, rfl⟩ | ⟨⟨b, rfl⟩, hnc⟩
  · clear hf hT rs hk
    subst h0
    go_enter Try.func17, Try.ntmps17
    go_wp2_with (fail)
    refine (strightr os RS.out _).mono ?_
    rintro e w2 ⟨rfl, o2⟩
    have O2 : Only [] w w2 := ((Only.refl _ _).alloc _).trans o2 (by simp)
    have b2 : Blk w2 w.heap.size 34 #[.int .i64 s.1.1, .int .i64 s.1.2, .int .i64 s.2] := o2.blk (Blk.new w 34 _) (by simp)
    obtain ⟨c0, c1, c2, c3⟩ := b2.facts3
    go_wp2_with (fail)
    refine (ahead_any (HT.out.keep O2) HK.out os RS.out hlen).mono ?_
    rintro e w3 ⟨rfl, o3⟩
    have O3 : Only [] w w3 := O2.trans o3 (by simp)
    have hi := ahead_le L s
    obtain ⟨i, hci⟩ : ∃ i, aheadT L s = i := ⟨_, rfl⟩
    rw [hci] at hi ⊢
    have HCE := Lib.hid hci
    clear hci
    have T3 := HT.out.keep O3
    rw [hn] at hi
    have hw3 := T3.own
    have hb3 := T3.blk
    rw [hn] at hw3 hb3
    obtain ⟨g0, g1, gl⟩ := hb3.facts2
    clear c0 c1 c2 c3 b2 o2 o3
    obtain rfl : i = 0 := by omega
    go_wp2_with (fail)
    have hM : L.take 0 = [] := rfl
    refine (things_any (M := []) (Part.nil _ _) rfl (by omega)).mono ?_
    rintro e w4 ⟨v, rfl, hv, o4⟩
    have O4 : Only [] w w4 := O3.trans o4 (by simp)
    have hs3 := O3.size
    have T5 := HT.out.keep O4
    have hlt := HT.out.lt
    have hgl := HT.out.blk.lt
    have O5 := O4
    have hv5 := hv
    clear o4 hv T3 hw3 hb3 g0 g1 gl O2 O3 O4
    have hw5 := T5.own
    have hb5 := T5.blk
    have hne5 := owns_ne T5.own T5.blk (by decide)
    rw [hn] at hw5 hb5 hne5
    obtain ⟨g0, g1, gl⟩ := hb5.facts2
    have fr := hb5.frozen 1
    have HV := Lib.hid hv5
    have HW := Lib.hid hw5
    have HBb := Lib.hid hb5
    have HO := Lib.hid O5
    have HNE := Lib.hid hne5
    have HLT := Lib.hid hlt
    clear hv5 hw5 hb5 T5 O5 hne5 hlt
    go_wp2_with (fail)
    refine (delete_any (A := none) (c := 0) hn HW.out (Nat.zero_le _) hi (by omega)).mono ?_
    rintro e w6 ⟨rfl, hw6, o6⟩
    have bg6 := o6.blk HBb.out (fun h => by simp at h)
    obtain ⟨q0, q1, ql⟩ := bg6.facts2
    have fr6 := bg6.frozen 1
    have HW6 := Lib.hid hw6
    have HO6 := Lib.hid o6
    have HB6 := Lib.hid bg6
    clear hw6 o6 bg6
    go_wp2_with (fail)
    go_ret
    rw [HCE.out]
    have q := free_fin (i := 0) (n := 0) hn HT.out HO.out HLT.out hgl HV.out HB6.out HW6.out HO6.out (by omega)
    rw [Nat.sub_zero] at q
    exact ⟨v, rfl, q⟩
  · clear hf hT rs hk
    go_enter Try.func17, Try.ntmps17
    go_wp2_with (fail)
    refine (strightr os RS.out _).mono ?_
    rintro e w2 ⟨rfl, o2⟩
    have O2 : Only [] w w2 := ((Only.refl _ _).alloc _).trans o2 (by simp)
    have b2 : Blk w2 w.heap.size 34 #[.int .i64 s.1.1, .int .i64 s.1.2, .int .i64 s.2] := o2.blk (Blk.new w 34 _) (by simp)
    obtain ⟨c0, c1, c2, c3⟩ := b2.facts3
    go_wp2_with (fail)
    refine (ahead_any (HT.out.keep O2) HK.out os RS.out hlen).mono ?_
    rintro e w3 ⟨rfl, o3⟩
    have O3 : Only [] w w3 := O2.trans o3 (by simp)
    have hi := ahead_le L s
    obtain ⟨i, hci⟩ : ∃ i, aheadT L s = i := ⟨_, rfl⟩
    rw [hci] at hi ⊢
    have HCE := Lib.hid hci
    clear hci
    have T3 := HT.out.keep O3
    rw [hn] at hi
    have hw3 := T3.own
    have hb3 := T3.blk
    rw [hn] at hw3 hb3
    obtain ⟨g0, g1, gl⟩ := hb3.facts2
    clear c0 c1 c2 c3 b2 o2 o3
    have hic : i ≤ c := by omega
    have hicI : (i : Int) ≤ (n : Int) := by omega
    go_wp2_with (fail)
    refine (things_any (M := L.take i) (part_take hn hw3 i) (by simp [hn]; omega) (by omega)).mono ?_
    rintro e w4 ⟨v, rfl, hv, o4⟩
    have O4 : Only [] w w4 := O3.trans o4 (by simp)
    have hs3 := O3.size
    have T5 := HT.out.keep O4
    have hlt := HT.out.lt
    have hgl := HT.out.blk.lt
    have O5 := O4
    have hv5 := hv
    clear o4 hv T3 hw3 hb3 g0 g1 gl O2 O3 O4
    have hw5 := T5.own
    have hb5 := T5.blk
    have hne5 := owns_ne T5.own T5.blk (by decide)
    rw [hn] at hw5 hb5 hne5
    obtain ⟨g0, g1, gl⟩ := hb5.facts2
    have fr := hb5.frozen 1
    have HV := Lib.hid hv5
    have HW := Lib.hid hw5
    have HBb := Lib.hid hb5
    have HO := Lib.hid O5
    have HNE := Lib.hid hne5
    have HLT := Lib.hid hlt
    clear hv5 hw5 hb5 T5 O5 hne5 hlt
    go_wp2_with (fail)
    refine (delete_any hn HW.out (Nat.zero_le _) hi (by omega)).mono ?_
    rintro e w6 ⟨rfl, hw6, o6⟩
    have bg6 := o6.blk HBb.out (fun h => by exact HNE.out (by simpa [Value.ownBlock, eq_comm] using h))
    obtain ⟨q0, q1, ql⟩ := bg6.facts2
    have fr6 := bg6.frozen 1
    have HW6 := Lib.hid hw6
    have HO6 := Lib.hid o6
    have HB6 := Lib.hid bg6
    clear hw6 o6 bg6
    go_wp2_with (fail)
    go_ret
    rw [HCE.out]
    have q := free_fin hn HT.out HO.out HLT.out hgl HV.out HB6.out HW6.out HO6.out (by omega)
    exact ⟨v, rfl, q⟩

end Go.Proofs.Ytcggeogpanackaa
