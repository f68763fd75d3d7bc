/- A cartridge stays as it was when memory that is not its own changes. No condition beyond those that each theorem states. -/
import Derived.Test.YtiiilimmjoadeaaCb2
import Derived.Test.YtiiilimmjoadeaaO2
namespace Go.Proofs.Ytiiilimmjoadeaa
open Go.RowKit

theorem Priv.other {w0 w w' : World} {p : Nat} {M : Recs} {most : Int} {lost : Bool} {S : Nat → Prop} (h : Priv w0 w p M most lost) (hc : Chg S w w')
    (hS : ∀ k, S k → w0.heap.size ≤ k ∧ ∃ t cs, Blk w k t cs ∧ 76 ≠ t ∧ 79 ≠ t ∧ 5 ≠ t) : Priv w0 w' p M most lost := by
  obtain ⟨lv, R, hM, ha, hp, ho, hb, hr⟩ := h
  refine ⟨lv, R, hM, ha.keep (hc.block p ha.blk.size (fun hs => ?_)) (fun g hg => hc.block g (ha.own_lt hg) (fun hs => ?_)) (fun r hx => hc.block r.g (ha.rec_lt hx) (fun hs => ?_)), hp, ho, hb.trans (hc.below hb.size (fun k hk => (hS k hk).1)), hr⟩
  · obtain ⟨_, t, cs, h1, h2, _, _⟩ := hS _ hs
    exact blk_ne ha.blk h1 h2 rfl
  · obtain ⟨_, t, cs, h1, _, h2, _⟩ := hS _ hs
    obtain ⟨cs', h3⟩ := own_blk ha.own hg
    exact blk_ne h3 h1 h2 rfl
  · obtain ⟨_, t, cs, h1, _, _, h2⟩ := hS _ hs
    exact (ha.recs _ hx).ne_blk h1 h2 rfl
end Go.Proofs.Ytiiilimmjoadeaa
