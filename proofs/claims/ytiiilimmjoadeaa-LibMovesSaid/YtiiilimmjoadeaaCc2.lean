/- Rows of strings that a law keeps beside a cartridge. No condition beyond those that each theorem states. -/
import Derived.Test.YtiiilimmjoadeaaCc1
namespace Go.Proofs.Ytiiilimmjoadeaa
open Go.RowKit

theorem string_info : (Try.prog.info? 9).map (fun i => (i.zero, i.size, i.bytes)) = some (some (.string ⟨#[]⟩), 1, 16) := by kernel_rfl

/-- The records' bytes as strings. -/
def strs (M : Recs) : List Value := M.map fun r => .string ⟨r.1.toArray⟩
theorem strs_length (M : Recs) : (strs M).length = M.length := by simp [strs]
theorem strs_snoc (M : Recs) (l : List UInt8) (b : Bool) : strs (M ++ [(l, b)]) = strs M ++ [.string ⟨l.toArray⟩] := by simp [strs]
/-- A row of strings of one's own is as it was, where a call keeps all but a cartridge's blocks. -/
theorem Keeps.own {a b : World} (h : Keeps a b) {base : Nat} {v : Value} {n : Nat} {xs : List Value} (ho : a.ownsRow base 9 1 v n xs) : b.ownsRow base 9 1 v n xs := by
  refine ⟨ho.1, ho.2.imp id fun ⟨g, cap, cur, h1, h2, h3, h4⟩ => ⟨g, cap, cur, h1, h2, ?_, h4⟩⟩
  exact h.block g _ h3 (fun _ _ e => by injection e with _ e; exact absurd e (by decide)) (fun _ _ e => by injection e with _ e; exact absurd e (by decide))
/-- A row of strings grows: the cartridge is as it was. -/
theorem kept_push {w w3 w4 : World} {p g n cap : Nat} {M : Recs} {most : Int} {lost : Bool} {xs : List Value} {o : Obj} (hP : Priv w w3 p M most lost) (hown : w3.ownsRow w.heap.size 9 1 (.slice (some ⟨g, 0, none⟩) n cap) n xs)
    (hg : (w3.alloc o).grownBy w4 (some g)) : Priv w w4 p M most lost := by
  refine hP.other (S := (· = g)) (((Chg.refl _ _).alloc _).grown hg (fun q hq => .inl (Option.some.inj hq).symm)) (fun k hk => ?_)
  subst hk
  obtain ⟨cs, h⟩ := own_blk hown rfl
  exact ⟨(hown.lt _ rfl).1, _, cs, h, by decide, by decide, by decide⟩
end Go.Proofs.Ytiiilimmjoadeaa
