/- A region that draws its order, by hand: an operation of a region that is written out as a list is given by its place. -/
import Derived.Deep.RegionHeld
import Derived.Deep.DrawnRows
namespace Go.Proofs.Ytgkgieemdjbhpaa
open Go
theorem take_list {l : List Oper} {i : Nat} {o : Oper} (h : l[i]? = some o) : l.toArray[i]? = some o := by simpa using h
end Go.Proofs.Ytgkgieemdjbhpaa
