/- The document's SameModel. -/
import Derived.Test.YtfnacnlaphpflaaDoorPRMa
import Derived.Test.YtfnacnlaphpflaaDoorPRMb
namespace Go.Proofs.YtfnacnlaphpflaaDoor
open Go.RowKit Go.Kx
open Go.Val (Tt)
set_option maxRecDepth 100000
theorem rsameMd_any {a b : Md} {w : World} (ha : Md.Li w a) (hb : Md.Li w b) : Calls Tryd.prog 46 #[a.val, b.val] w fun r w' => r = .returned (.bool (Md.same a b)) ∧ Only [] w w' := by
  obtain ⟨xn, xcp, xinsA, xinsc, xinsl, xoutsA, xoutsc, xoutsl, xvarsA, xvarsc, xvarsl, xtaA, xtac, xtal, xemitsA, xemitsc, xemitsl, xintA, xintc, xintl, xextA, xextc, xextl, xcon, xownA, xownc, xownl, xpartsA, xpartsc, xpartsl, xlinksA, xlinksc, xlinksl, xrulesA, xrulesc, xrulesl⟩ := a
  obtain ⟨yn, ycp, yinsA, yinsc, yinsl, youtsA, youtsc, youtsl, yvarsA, yvarsc, yvarsl, ytaA, ytac, ytal, yemitsA, yemitsc, yemitsl, yintA, yintc, yintl, yextA, yextc, yextl, ycon, yownA, yownc, yownl, ypartsA, ypartsc, ypartsl, ylinksA, ylinksc, ylinksl, yrulesA, yrulesc, yrulesl⟩ := b
  cases h : (eqS xn yn && decide (xcp = ycp) && decide (xcon = ycon) && alikeG Po.same xinsl yinsl && alikeG Po.same xoutsl youtsl && alikeG Se.same xvarsl yvarsl && alikeG Se.same xintl yintl && alikeG Se.same xextl yextl && alikeG Se.same xownl yownl && exsB xtal ytal)
  · exact rsameMd_a ha hb h
  · exact rsameMd_b ha hb h
end Go.Proofs.YtfnacnlaphpflaaDoor
