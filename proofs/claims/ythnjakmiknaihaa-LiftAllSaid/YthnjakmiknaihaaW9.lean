/- The fixed fact awake returns true. No condition beyond those that each theorem states. -/
import Derived.Test.YthnjakmiknaihaaW8
namespace Go.Proofs.Ythnjakmiknaihaa
open Go.RowKit

def aw : Nat → Ask
  | 0 => ⟨0, 0, 1, 9, 0, 3⟩
  | 1 => ⟨0, 0, 1, 5, 0, 3⟩
  | _ => ⟨0, 0, 1, 2, 0, 3⟩
def awCells : Array Value := #[.int .i64 0, .int .i64 0, .int .i64 1, .int .i64 9, .int .i64 0, .int .i64 3, .int .i64 0, .int .i64 0, .int .i64 1, .int .i64 5, .int .i64 0, .int .i64 3, .int .i64 0, .int .i64 0, .int .i64 1, .int .i64 2, .int .i64 0, .int .i64 3]

theorem aw_at {W : World} {b : Nat} (h : W.heap[b]? = some (.cells awCells 32 (0, 0))) : AsksAt W b 0 3 aw := by
  have hc : ∀ j, W.cell? ⟨b, j, none⟩ = awCells[j]? := fun j => by simp [World.cell?, h]
  unfold AsksAt
  simp only [hc]
  refine ⟨?_, ?_, ?_, ?_, ?_, ?_⟩ <;> intro i hi <;> rcases i with _ | _ | _ | i <;> first | rfl | omega

theorem aw_hd {W : World} {b : Nat} {p : Int} (h : W.heap[b]? = some (.cells #[.int .i64 1, .int .i64 p] 35 (0, 0))) : HeadsAt W b 0 1 (fun _ => ⟨1, p⟩) := by
  have hc : ∀ j, W.cell? ⟨b, j, none⟩ = (#[.int .i64 1, .int .i64 p] : Array Value)[j]? := fun j => by simp [World.cell?, h]
  unfold HeadsAt
  simp only [hc]
  refine ⟨?_, ?_⟩ <;> intro i hi <;> rcases i with _ | i <;> first | rfl | omega

theorem heap_alloc_at {w : World} {o : Obj} {b : Nat} (h : b = w.heap.size) : (w.alloc o).heap[b]? = some o := by subst h; exact heap_alloc_new w o

theorem lt_of_heap {W : World} {b : Nat} {o : Obj} (h : W.heap[b]? = some o) : b < W.heap.size := (Array.getElem?_eq_some_iff.1 h).1

theorem aw_call (W : World) (b b2 r : Nat) (p now : Int) (hb : W.heap[b]? = some (.cells awCells 32 (0, 0))) (hh : W.heap[b2]? = some (.cells #[.int .i64 1, .int .i64 p] 35 (0, 0)))
    (hr : nextOf aw 3 (fun _ => ⟨1, p⟩) 1 now 6 = r) :
    Calls Try.prog 9 #[.slice (some ⟨b, 0, none⟩) 3 3, .slice (some ⟨b2, 0, none⟩) 1 1, .int .i64 now, .int .i64 6] W fun e w' => e = .returned (.tuple #[.int .i64 r, .bool true]) ∧ Below W.heap.size W w' := by
  subst hr
  exact next_any b 0 3 3 aw _ 1 1 _ now 6 W (by omega) (by omega) (by omega) (lt_of_heap hb) (aw_at hb) (.inr ⟨b2, 0, rfl, lt_of_heap hh, aw_hd hh⟩)

set_option maxHeartbeats 2000000 in
theorem awake_any (w : World) : Calls Try.prog 11 #[] w fun e w' => e = .returned (.bool true) ∧ Below w.heap.size w w' := by
  go_enter Try.func11, Try.ntmps11
  go_wp2_with fail
  refine (aw_call _ _ _ 1 4 8 (by exact (Below.heap_alloc _ _ _ (by simp)).trans (heap_alloc_new _ _)) (by exact heap_alloc_at (by simp)) (by decide)).mono ?_
  rintro e w1 ⟨rfl, hb1⟩
  have a1 : w1.heap[w.heap.size]? = some (.cells awCells 32 (0, 0)) := (hb1.block _ (by simp; omega)).trans ((Below.heap_alloc _ _ _ (by simp)).trans (heap_alloc_new _ _))
  have B1 := Lib.hid (((Below.refl w.heap.size w).alloc (Nat.le_refl _) _).trans (((Below.refl _ _).alloc (by simp) _).trans (hb1.mono (by simp; omega))))
  have A1 := Lib.hid a1
  clear a1 hb1
  have z1 := B1.out.size
  go_wp2_with fail
  refine (aw_call _ _ _ 2 10 8 (by exact (Below.heap_alloc _ _ _ (lt_of_heap A1.out)).trans A1.out) (by exact heap_alloc_at (by simp)) (by decide)).mono ?_
  rintro e w2 ⟨rfl, hb1⟩
  have a1 : w2.heap[w.heap.size]? = some (.cells awCells 32 (0, 0)) := (hb1.block _ (by have := lt_of_heap A1.out; simp; omega)).trans ((Below.heap_alloc _ _ _ (lt_of_heap A1.out)).trans A1.out)
  have B2 := Lib.hid (B1.out.trans (((Below.refl _ _).alloc z1 _).trans (hb1.mono (by simp; omega))))
  have A2 := Lib.hid a1
  clear a1 hb1
  have z2 := B2.out.size
  go_wp2_with fail
  refine (aw_call _ _ _ 0 4 9 (by exact (Below.heap_alloc _ _ _ (lt_of_heap A2.out)).trans A2.out) (by exact heap_alloc_at (by simp)) (by decide)).mono ?_
  rintro e w3 ⟨rfl, hb1⟩
  have B3 := Lib.hid (B2.out.trans (((Below.refl _ _).alloc z2 _).trans (hb1.mono (by simp; omega))))
  clear hb1
  go_wp2_with fail
  refine (next_none _ _ _ _ _ _).mono ?_
  rintro e w4 ⟨rfl, rfl⟩
  go_wp2_with fail
  go_ret
  exact ⟨rfl, B3.out⟩
end Go.Proofs.Ythnjakmiknaihaa
