/- What the methods of a library do, by the blocks that it owns; and those of no library. No condition beyond those that each theorem states. -/
import Derived.Test.YtiiilimmjoadeaaL11
namespace Go.Proofs.Ytiiilimmjoadeaa
open Go.RowKit

section
variable {F : Nat → Prop} {w : World} {lp : Nat} {L : LV} (h : LOwn F w lp L)
include h
theorem oCart (n : Int) : Calls Try.prog 34 #[.pointer (some ⟨lp, 0, none⟩), .int .i64 n] w fun e w' => e = .returned (cartV L n) ∧ w = w' := by
  obtain ⟨own, cv, dv, _, h⟩ := h
  exact lCart own w lp cv dv L n h
theorem oCarts : Calls Try.prog 35 #[.pointer (some ⟨lp, 0, none⟩)] w fun e w' => e = .returned (.int .i64 L.carts.length) ∧ w = w' := by
  obtain ⟨own, cv, dv, _, h⟩ := h
  exact lCarts own w lp cv dv L h
theorem oDrives : Calls Try.prog 36 #[.pointer (some ⟨lp, 0, none⟩)] w fun e w' => e = .returned (.int .i64 L.drives.length) ∧ w = w' := by
  obtain ⟨own, cv, dv, _, h⟩ := h
  exact lDrives own w lp cv dv L h
theorem oDrive (n : Int) : Calls Try.prog 31 #[.pointer (some ⟨lp, 0, none⟩), .int .i64 n] w fun e w' => e = .returned (.tuple #[.int .i64 (driveM L n).1, .int .i64 (driveM L n).2.1, .bool (driveM L n).2.2]) ∧ Below w.heap.size w w' := by
  obtain ⟨own, cv, dv, _, h⟩ := h
  exact lDrive own w lp cv dv L n h
theorem oWorking : Calls Try.prog 37 #[.pointer (some ⟨lp, 0, none⟩)] w fun e w' => e = .returned (.int .i64 (workM L)) ∧ Below w.heap.size w w' := by
  obtain ⟨own, cv, dv, _, h⟩ := h
  exact lWorking own w lp cv dv L h
theorem oGo (n pos : Int) (hnow : 0 ≤ L.now ∧ L.now < 4611686018427387904) : Calls Try.prog 27 #[.pointer (some ⟨lp, 0, none⟩), .int .i64 n, .int .i64 pos] w fun e w' => e = .returned (.tuple #[.bool (goM L n pos).1, .int .i64 (goM L n pos).2.1]) ∧ ∃ F', LOwn F' w' lp (goM L n pos).2.2 ∧ Took F F' w w' := by
  obtain ⟨own, cv, dv, hF, h⟩ := h
  exact (lGo own w lp cv dv L n pos h hnow).mono fun e w' ⟨he, h1, h2⟩ => ⟨he, LStep.took hF (LStep.of h1 h2 (fun k hk => by omega))⟩
theorem oBreak (n : Int) : Calls Try.prog 32 #[.pointer (some ⟨lp, 0, none⟩), .int .i64 n] w fun e w' => e = .returned (.bool (breakM L n).1) ∧ ∃ F', LOwn F' w' lp (breakM L n).2 ∧ Took F F' w w' := by
  obtain ⟨own, cv, dv, hF, h⟩ := h
  exact (lBreak own w lp cv dv L n h).mono fun e w' ⟨he, h1⟩ => ⟨he, LStep.took hF h1⟩
theorem oMend (n : Int) : Calls Try.prog 33 #[.pointer (some ⟨lp, 0, none⟩), .int .i64 n] w fun e w' => e = .returned (.bool (mendM L n).1) ∧ ∃ F', LOwn F' w' lp (mendM L n).2 ∧ Took F F' w w' := by
  obtain ⟨own, cv, dv, hF, h⟩ := h
  exact (lMend own w lp cv dv L n h).mono fun e w' ⟨he, h1⟩ => ⟨he, LStep.took hF h1⟩
theorem oAdd (m : Int) : Calls Try.prog 30 #[.pointer (some ⟨lp, 0, none⟩), .int .i64 m] w fun e w' => ∃ p, e = .returned (.tuple #[.int .i64 (laddM L m p).1.1, .bool (laddM L m p).1.2]) ∧ ∃ F', LOwn F' w' lp (laddM L m p).2 ∧ Took F F' w w' := by
  obtain ⟨own, cv, dv, hF, h⟩ := h
  exact (lAdd own w lp cv dv L m h).mono fun e w' ⟨p, he, h1⟩ => ⟨p, he, LStep.took hF h1⟩
theorem oAppend (n : Int) (A : Option Addr) (m c : Nat) (l : List UInt8) (hpos : ∀ d ∈ L.drives, 0 ≤ d.pos ∧ d.pos < 4611686018427387904) (hb : BytesIn w A m l) : Calls Try.prog 29 #[.pointer (some ⟨lp, 0, none⟩), .int .i64 n, .slice A m c] w fun e w' => e = .returned (.tuple #[.int .i64 (lappendM L n l).1.1, .int .i64 (lappendM L n l).1.2]) ∧ ∃ F', LOwn F' w' lp (lappendM L n l).2 ∧ Took F F' w w' := by
  obtain ⟨own, cv, dv, hF, h⟩ := h
  exact (lAppend own w lp cv dv L n A m c l h hpos hb).mono fun e w' ⟨he, h1⟩ => ⟨he, LStep.took hF h1⟩
/-- The bytes that Read hands out are not the library's. -/
theorem oRead (n pos : Int) (hpos : ∀ d ∈ L.drives, 0 ≤ d.pos ∧ d.pos < 4611686018427387904) : Calls Try.prog 28 #[.pointer (some ⟨lp, 0, none⟩), .int .i64 n, .int .i64 pos] w fun e w' => ∃ v, e = .returned (.tuple #[v, .int .i64 (lreadM L n pos).1.2]) ∧ OutB w w' v (lreadM L n pos).1.1 ∧ LOwn (fun k => F k ∧ k < w.heap.size) w' lp (lreadM L n pos).2 ∧ Chg F w w' := by
  obtain ⟨own, cv, dv, hF, h⟩ := h
  have e : ∀ k, k < w.heap.size → (if k < w.heap.size then own k else 0) = own k := fun k hk => if_pos hk
  have hT : ∀ k, (fun k => if k < w.heap.size then own k else 0) k ≠ 0 → F k ∧ k < w.heap.size := fun k hk => by
    replace hk : (if k < w.heap.size then own k else 0) ≠ 0 := hk
    split at hk
    · exact ⟨hF k hk, by assumption⟩
    · exact absurd rfl hk
  exact (lRead (fun k => if k < w.heap.size then own k else 0) w lp cv dv L n pos (h.relab e) hpos).mono fun _ _ ⟨v, he, ho, h1, h2⟩ => ⟨v, he, ho, ⟨_, _, _, hT, h1⟩, h2.mono (fun k hk => (hT k hk).1)⟩
end
theorem oNew (c r d : Int) (w : World) : Calls Try.prog 38 #[.int .i64 c, .int .i64 r, .int .i64 d] w fun e w' => ∃ lp L, e = .returned (.pointer (some ⟨lp, 0, none⟩)) ∧ w.heap.size ≤ lp ∧ LOwn (fun k => w.heap.size ≤ k) w' lp L ∧ Below w.heap.size w w' ∧ NewL (cnt c 32) (cnt d 4) (max 0 (min r 1024)) L :=
  (lNew c r d w).mono fun _ _ ⟨lp, cv, dv, L, he, h1, ⟨own, h2, h3, h4⟩, h5⟩ => ⟨lp, L, he, h1, ⟨own, cv, dv, h3, h2⟩, h4, h5⟩

/-- A slice that was handed out, behind a call that turns other blocks. -/
theorem OutB.range {w w1 : World} {v : Value} {l : List UInt8} (h : OutB w w1 v l) : ∀ g, v.ownBlock = some g → w.heap.size ≤ g ∧ g < w1.heap.size := by
  intro g hg
  rcases h with ⟨rfl, _⟩ | ⟨g', cap, rfl, h1, _, _, hr⟩
  · cases hg
  · have e : g' = g := Option.some.inj hg
    subst e
    exact ⟨h1, hr.size⟩
theorem OutB.chg {F : Nat → Prop} {w w1 w2 : World} {v : Value} {l : List UInt8} (h : OutB w w1 v l) (hc : Chg F w1 w2) (hd : ∀ g, v.ownBlock = some g → ¬ F g) : OutB w w2 v l := by
  rcases h with h | ⟨g, cap, rfl, h1, h2, h3, hr⟩
  · exact .inl h
  · exact .inr ⟨g, cap, rfl, h1, h2, h3, hr.of_eq (hc.block g hr.size (hd g rfl))⟩

section
variable (w : World)
theorem nCart (n : Int) : Calls Try.prog 34 #[.pointer none, .int .i64 n] w fun e w' => e = .returned (.pointer none) ∧ w = w' := by
  go_enter Try.func34, Try.ntmps34
  go_wp2
  go_ret
  exact ⟨rfl, rfl⟩
theorem nCarts : Calls Try.prog 35 #[.pointer none] w fun e w' => e = .returned (.int .i64 0) ∧ w = w' := by
  go_enter Try.func35, Try.ntmps35
  go_wp2
  go_ret
  exact ⟨rfl, rfl⟩
theorem nDrives : Calls Try.prog 36 #[.pointer none] w fun e w' => e = .returned (.int .i64 0) ∧ w = w' := by
  go_enter Try.func36, Try.ntmps36
  go_wp2
  go_ret
  exact ⟨rfl, rfl⟩
theorem nDrive (n : Int) : Calls Try.prog 31 #[.pointer none, .int .i64 n] w fun e w' => e = .returned (.tuple #[.int .i64 (-1), .int .i64 0, .bool false]) ∧ w = w' := by
  go_enter Try.func31, Try.ntmps31
  go_wp2
  go_ret3
  exact ⟨rfl, rfl⟩
theorem nBreak (n : Int) : Calls Try.prog 32 #[.pointer none, .int .i64 n] w fun e w' => e = .returned (.bool false) ∧ w = w' := by
  go_enter Try.func32, Try.ntmps32
  go_wp2
  go_ret
  exact ⟨rfl, rfl⟩
theorem nMend (n : Int) : Calls Try.prog 33 #[.pointer none, .int .i64 n] w fun e w' => e = .returned (.bool false) ∧ w = w' := by
  go_enter Try.func33, Try.ntmps33
  go_wp2
  go_ret
  exact ⟨rfl, rfl⟩
theorem nAdd (n : Int) : Calls Try.prog 30 #[.pointer none, .int .i64 n] w fun e w' => e = .returned (.tuple #[.int .i64 0, .bool false]) ∧ w = w' := by
  go_enter Try.func30, Try.ntmps30
  go_wp2
  go_ret2
  exact ⟨rfl, rfl⟩
theorem nGo (n pos : Int) : Calls Try.prog 27 #[.pointer none, .int .i64 n, .int .i64 pos] w fun e w' => e = .returned (.tuple #[.bool false, .int .i64 1]) ∧ w = w' := by
  go_enter Try.func27, Try.ntmps27
  go_wp2_with (go_at_call 34; refine (nCart _ n).mono ?_; rintro e w1 ⟨rfl, rfl⟩)
  go_ret2
  exact ⟨rfl, rfl⟩
theorem nRead (n pos : Int) : Calls Try.prog 28 #[.pointer none, .int .i64 n, .int .i64 pos] w fun e w' => e = .returned (.tuple #[.slice none 0 0, .int .i64 1]) ∧ w = w' := by
  go_enter Try.func28, Try.ntmps28
  go_wp2_with (go_at_call 34; refine (nCart _ n).mono ?_; rintro e w1 ⟨rfl, rfl⟩)
  go_ret2
  exact ⟨rfl, rfl⟩
theorem nAppend (n : Int) (A : Option Addr) (m c : Nat) : Calls Try.prog 29 #[.pointer none, .int .i64 n, .slice A m c] w fun e w' => e = .returned (.tuple #[.int .i64 0, .int .i64 1]) ∧ w = w' := by
  go_enter Try.func29, Try.ntmps29
  go_wp2_with (go_at_call 34; refine (nCart _ n).mono ?_; rintro e w1 ⟨rfl, rfl⟩)
  go_ret2
  exact ⟨rfl, rfl⟩
theorem nWorking : Calls Try.prog 37 #[.pointer none] w fun e w' => e = .returned (.int .i64 0) ∧ w = w' := by
  go_enter Try.func37, Try.ntmps37
  go_wp2_with (go_at_call 36; refine (nDrives _).mono ?_; rintro e w1 ⟨rfl, rfl⟩)
  go_loop [3, 10] (fun n i => n = .int .i64 0 ∧ i = .int .i64 0) (fun _ _ => 0)
  case atStart => exact ⟨rfl, rfl⟩
  case round =>
    obtain ⟨rfl, rfl⟩ := hrel
    go_wp2_with fail
    go_ret
    exact ⟨rfl, rfl⟩
end
end Go.Proofs.Ytiiilimmjoadeaa
