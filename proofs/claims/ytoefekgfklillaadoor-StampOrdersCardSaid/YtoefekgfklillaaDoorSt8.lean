/- StampOrders: the law's own walk. -/
import Derived.Test.YtoefekgfklillaaDoorSt5
import Derived.Test.YtoefekgfklillaaDoorOrdLaw
import Derived.Test.YtoefekgfklillaaDoorSt8a
import Derived.Test.YtoefekgfklillaaDoorSt8b
import Derived.Test.YtoefekgfklillaaDoorSt8c
namespace Go.Proofs.YtoefekgfklillaaDoor
open Go.RowKit Go.Kx
set_option maxRecDepth 20000


theorem storders_any (a b c : St) (t : Tm) (ha : a.ok) (hb : b.ok) (hc : c.ok) (to : t.ok) {w : World} (hw : Tab10 w) :
    Calls Tryd.prog 3 #[.agg #[.int .i64 a.1.1, .int .i64 a.1.2, .int .i64 a.2], .agg #[.int .i64 b.1.1, .int .i64 b.1.2, .int .i64 b.2], .agg #[.int .i64 c.1.1, .int .i64 c.1.2, .int .i64 c.2], .agg #[.int .i64 t.1, .int .i64 t.2]] w fun e w' => e = .returned (.bool true) ∧ Only [] w w' := by
  have hx := stC_neg b a
  have hr := stC_range a b
  have hz2 : decide (stC a b < 0) = decide (stC a b = -1) := by rcases hr with h | h | h <;> rw [h] <;> rfl
  rcases ra : stR a with _ | _
  · exact storders_a a b c t ha hb hc to rfl rfl hx hr rfl hz2 ra hw
  rcases rb : stR b with _ | _
  · exact storders_b a b c t ha hb hc to rfl rfl hx hr rfl hz2 ra rb hw
  rcases rc : stR c with _ | _
  · exact storders_c a b c t ha hb hc to rfl rfl hx hr rfl hz2 ra rb rc hw
  have hp : decide (a = b) = decide (stC a b = 0) := by rw [decide_eq_decide]; exact (stC_zero ha hb ra rb).symm
  have hA := after_law ha to ra
  by_cases q : stC a b ≤ 0
  · by_cases r : stC b c ≤ 0
    · have k := stC_trans ha hb hc ra rb rc q r
      rcases hA with ⟨e0, hu, ru, lu⟩ | ⟨e0, hz⟩
      · exact storders_110 a b c t ha hb hc to rfl rfl hx hr rfl hz2 ra rb rc rfl hp (decide_eq_true q) rfl (decide_eq_true r) rfl (decide_eq_false (by omega)) (u := (afterT a t).1) (Prod.ext rfl e0) hu ru lu hw
      · exact storders_111 a b c t ha hb hc to rfl rfl hx hr rfl hz2 ra rb rc rfl hp (decide_eq_true q) rfl (decide_eq_true r) rfl (decide_eq_false (by omega)) (e := (afterT a t).2) (Prod.ext hz rfl) e0 hw
    · rcases hA with ⟨e0, hu, ru, lu⟩ | ⟨e0, hz⟩
      · exact storders_100 a b c t ha hb hc to rfl rfl hx hr rfl hz2 ra rb rc rfl hp (decide_eq_true q) rfl (decide_eq_false r) (u := (afterT a t).1) (Prod.ext rfl e0) hu ru lu hw
      · exact storders_101 a b c t ha hb hc to rfl rfl hx hr rfl hz2 ra rb rc rfl hp (decide_eq_true q) rfl (decide_eq_false r) (e := (afterT a t).2) (Prod.ext hz rfl) e0 hw
  · rcases hA with ⟨e0, hu, ru, lu⟩ | ⟨e0, hz⟩
    · exact storders_000 a b c t ha hb hc to rfl rfl hx hr rfl hz2 ra rb rc rfl hp (decide_eq_false q) (u := (afterT a t).1) (Prod.ext rfl e0) hu ru lu hw
    · exact storders_001 a b c t ha hb hc to rfl rfl hx hr rfl hz2 ra rb rc rfl hp (decide_eq_false q) (e := (afterT a t).2) (Prod.ext hz rfl) e0 hw

end Go.Proofs.YtoefekgfklillaaDoor
