/- Where a tomb stands says nothing about places. No condition beyond those that the theorem states. -/
import Derived.Test.YthceidacmeadkaaSU
namespace Go.Proofs.Ythceidacmeadkaa
open Go.RowKit Go.Maps Go.WideMaps Go.Sort

theorem places_gone {L1 L2 : List FoundP} {t : FoundP} (ht : t.r.kind = 3) (b : BlobV) : placesOf (L1 ++ [t] ++ L2) b = placesOf (L1 ++ L2) b := List.map_congr_left fun s _ => by
  have hn : isShard b s t = false := shard_other fun hk => by omega
  unfold firstAt
  rw [List.find?_append, List.find?_append, List.find?_append, List.find?_singleton, hn]
  simp
end Go.Proofs.Ythceidacmeadkaa
