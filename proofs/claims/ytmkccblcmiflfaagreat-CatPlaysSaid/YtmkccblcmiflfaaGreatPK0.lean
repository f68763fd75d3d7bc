/- Short words for the steps through a region. No condition beyond those that each theorem states. -/
import Derived.Test.YtmkccblcmiflfaaGreatRows
import Derived.WalkKit
import Derived.Deep.RegionHeld
namespace Go.Proofs.YtmkccblcmiflfaaGreat
open Go.RowKit
theorem pt1 {α : Type} {l : List α} {i : Nat} {a : α} : l.toArray.setIfInBounds i a = (l.set i a).toArray := by simp
theorem pt2 {α : Type} {x a : α} {xs : List α} : (x :: xs).set 0 a = a :: xs := rfl
theorem pt3 {α : Type} {x a : α} {xs : List α} {i : Nat} : (x :: xs).set (i + 1) a = x :: xs.set i a := rfl
theorem tko {l : List Oper} {i : Nat} {o : Oper} (h : l[i]? = some o) : l.toArray[i]? = some o := by simpa using h
theorem tk {P : Program} {md : Region.Mode} {l : List Oper} {Q : Exit → Act → World → Prop} {S : World → Prop} {i : Nat} {oi : Oper} {v : Value} {fuel : Nat} {listed : Array Bool} {a : Act} {w : World} (hi : l[i]? = some oi)
    (hy : ∀ w, S w → (execOp a.eval oi).run P w = .ok (.value v) w) (h : wpAnyH P md l.toArray Q S fuel (listed.setIfInBounds i true) (a.put oi.dst v) w)
    (hs : Region.noSelect l.toArray = true := by kernel_rfl) (hf : Region.free md l.toArray listed i = true := by kernel_rfl) (hr : (Region.ready md l.toArray listed).contains i = true := by kernel_rfl)
    (hQ : ∀ c a w, Q (.panic c) (a.put oi.dst v) w → Q (.panic c) a w := by exact fun _ _ _ h => h) (hw : Region.wanted oi (yielded l.toArray a.tmps) = true := by rfl) (hS : S w := by assumption) :
    wpAnyH P md l.toArray Q S (fuel + 1) listed a w := wpAnyH_take (tko hi) hs hf hr hQ (Or.inl ⟨hw, hy⟩) hS h
theorem tku {P : Program} {md : Region.Mode} {l : List Oper} {Q : Exit → Act → World → Prop} {S : World → Prop} {i : Nat} {oi : Oper} {fuel : Nat} {listed : Array Bool} {a : Act} {w : World} (hi : l[i]? = some oi)
    (h : wpAnyH P md l.toArray Q S fuel (listed.setIfInBounds i true) (a.put oi.dst undef) w)
    (hs : Region.noSelect l.toArray = true := by kernel_rfl) (hf : Region.free md l.toArray listed i = true := by kernel_rfl) (hr : (Region.ready md l.toArray listed).contains i = true := by kernel_rfl)
    (hQ : ∀ c a w, Q (.panic c) (a.put oi.dst undef) w → Q (.panic c) a w := by exact fun _ _ _ h => h) (hw : Region.wanted oi (yielded l.toArray a.tmps) = false := by rfl) (hS : S w := by assumption) :
    wpAnyH P md l.toArray Q S (fuel + 1) listed a w := wpAnyH_take (tko hi) hs hf hr hQ (Or.inr ⟨hw, rfl⟩) hS h
end Go.Proofs.YtmkccblcmiflfaaGreat
