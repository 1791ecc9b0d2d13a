/- MergeApplies returns true and writes nothing that was there; for every string and every list of hunks in memory. -/
import Derived.Test.YtafhefhhndmdkaaDoorMgAppliesLaw
import Derived.Test.YtafhefhhndmdkaaDoorMgRefApply
import Derived.Test.YtafhefhhndmdkaaDoorMgOpen
namespace Go.Proofs.YtafhefhhndmdkaaDoor
open Go.RowKit Mg
theorem mergeApplies_law (a : ByteArray) (A : Option Addr) (n ch : Nat) (hs : List Hunk) (w : World) (ha : a.size ≤ maxLen) (hn : n = hs.length) (hn2 : n ≤ maxLen) (hh : Hunks w w.heap.size A hs) (hss : ∀ h ∈ hs, ∀ s ∈ h.2.2, s.size ≤ maxLen) :
    Calls Tryd.prog 5 #[.string a, .slice A n ch] w fun e w' => e = .returned (.bool true) ∧ Below w.heap.size w w' :=
  mergeApplies_law0 a A n ch hs w ha hn hn2 hh hss fun W h1 h2 h3 h4 => refApply_any a A ch hs W h1 h2 h3 h4
end Go.Proofs.YtafhefhhndmdkaaDoor
