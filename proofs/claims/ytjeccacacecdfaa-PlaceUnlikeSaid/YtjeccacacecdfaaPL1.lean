/- How two cartridges' numbers are compared by what a map holds of them. No condition beyond those that each theorem states. -/
import Derived.Test.YtjeccacacecdfaaG1
import Derived.Maps.Own
import Derived.Maps.OwnOps
import Derived.Maps.OwnSet
import Derived.Maps.RangeWalk
import Derived.Shelf.SlSortCmp.Whole1
import Derived.Shelf.SlicesG.Cmp
import Derived.Shelf.Lay
import Derived.Ground.SlsfProg
import Derived.Ground.SlgcProg
namespace Go.Proofs.Ytjeccacacecdfaa
open Go.RowKit Go.Shelf Go.Maps
def sortL_ren : Go.Shelf.Ren := ⟨fun | 6 => 14 | 15 => 22 | 14 => 21 | 28 => 32 | 29 => 33 | 20 => 24 | 21 => 25 | 22 => 26 | 23 => 27 | 24 => 28 | 25 => 29 | 26 => 30 | 27 => 31 | 46 => 34 | 47 => 35 | 48 => 36 | 49 => 37 | 50 => 38 | 57 => 39 | n => n, fun | 22 => 23 | 24 => 3 | 25 => 41 | 3 => 3 | 39 => 46 | 0 => 0 | 53 => 56 | 55 => 58 | 4 => 4 | 46 => 50 | 45 => 49 | 50 => 37 | 5 => 5 | 9 => 9 | 66 => 59 | 70 => 63 | 76 => 65 | 77 => 66 | n => n, fun | n => n⟩
theorem sortL : Go.Proofs.SlLaysF.n6 Try.prog sortL_ren := {
  mixed := by kernel_rfl
  f6 := ⟨Try.f14.name, by decide, Try.func14.trans (congrArg some (by kernel_rfl))⟩
  f14 := ⟨Try.f21.name, by decide, Try.func21.trans (congrArg some (by kernel_rfl))⟩
  f15 := Try.func22.trans (congrArg some (by kernel_rfl))
  f20 := ⟨Try.f24.name, by decide, Try.func24.trans (congrArg some (by kernel_rfl))⟩
  f21 := ⟨Try.f25.name, by decide, Try.func25.trans (congrArg some (by kernel_rfl))⟩
  f22 := ⟨Try.f26.name, by decide, Try.func26.trans (congrArg some (by kernel_rfl))⟩
  f23 := ⟨Try.f27.name, by decide, Try.func27.trans (congrArg some (by kernel_rfl))⟩
  f24 := ⟨Try.f28.name, by decide, Try.func28.trans (congrArg some (by kernel_rfl))⟩
  f25 := ⟨Try.f29.name, by decide, Try.func29.trans (congrArg some (by kernel_rfl))⟩
  f26 := ⟨Try.f30.name, by decide, Try.func30.trans (congrArg some (by kernel_rfl))⟩
  f27 := ⟨Try.f31.name, by decide, Try.func31.trans (congrArg some (by kernel_rfl))⟩
  f28 := Try.func32.trans (congrArg some (by kernel_rfl))
  f29 := Try.func33.trans (congrArg some (by kernel_rfl))
  f46 := ⟨Try.f34.name, by decide, Try.func34.trans (congrArg some (by kernel_rfl))⟩
  f47 := Try.func35.trans (congrArg some (by kernel_rfl))
  f48 := Try.func36.trans (congrArg some (by kernel_rfl))
  f49 := ⟨Try.f37.name, by decide, Try.func37.trans (congrArg some (by kernel_rfl))⟩
  f50 := ⟨Try.f38.name, by decide, Try.func38.trans (congrArg some (by kernel_rfl))⟩
  f57 := ⟨Try.f39.name, by decide, Try.func39.trans (congrArg some (by kernel_rfl))⟩
  t0 := Try.underlying0
  a0 := Try.isAgg0
  z0 := Try.sizeOf0
  v0 := Try.zeroValue0
  t3 := Try.underlying3
  a3 := Try.isAgg3
  z3 := Try.sizeOf3
  v3 := Try.zeroValue3
  t4 := Try.underlying4
  a4 := Try.isAgg4
  z4 := Try.sizeOf4
  v4 := Try.zeroValue4
  t5 := Try.underlying5
  a5 := Try.isAgg5
  z5 := Try.sizeOf5
  v5 := Try.zeroValue5
  t9 := Try.underlying9
  a9 := Try.isAgg9
  z9 := Try.sizeOf9
  v9 := Try.zeroValue9
  t22 := Try.underlying23
  a22 := Try.isAgg23
  z22 := Try.sizeOf23
  v22 := Try.zeroValue23
  a24 := Try.isAgg3
  z24 := Try.sizeOf3
  t25 := Try.underlying41
  a25 := Try.isAgg41
  z25 := Try.sizeOf41
  v25 := Try.zeroValue41
  t39 := Try.underlying46
  a39 := Try.isAgg46
  z39 := Try.sizeOf46
  v39 := Try.zeroValue46
  t45 := Try.underlying49
  a45 := Try.isAgg49
  z45 := Try.sizeOf49
  v45 := Try.zeroValue49
  t46 := Try.underlying50
  a46 := Try.isAgg50
  z46 := Try.sizeOf50
  v46 := Try.zeroValue50
  t50 := Try.underlying37
  a50 := Try.isAgg37
  z50 := Try.sizeOf37
  v50 := Try.zeroValue37
  t53 := Try.underlying56
  a53 := Try.isAgg56
  z53 := Try.sizeOf56
  v53 := Try.zeroValue56
  t55 := Try.underlying58
  a55 := Try.isAgg58
  z55 := Try.sizeOf58
  v55 := Try.zeroValue58
  t66 := Try.underlying59
  a66 := Try.isAgg59
  z66 := Try.sizeOf59
  v66 := Try.zeroValue59
  t70 := Try.underlying63
  a70 := Try.isAgg63
  z70 := Try.sizeOf63
  v70 := Try.zeroValue63
  t76 := Try.underlying65
  a76 := Try.isAgg65
  z76 := Try.sizeOf65
  v76 := Try.zeroValue65
  t77 := Try.underlying66
  a77 := Try.isAgg66
  z77 := Try.sizeOf66
  v77 := Try.zeroValue66 }
def cmpL_ren : Go.Shelf.Ren := ⟨fun | 5 => 17 | 7 => 23 | n => n, fun | 22 => 3 | 3 => 3 | 4 => 4 | n => n, fun | n => n⟩
theorem cmpL : Go.Proofs.SlLaysC2.n5 Try.prog cmpL_ren := {
  mixed := by kernel_rfl
  f5 := ⟨Try.f17.name, by decide, Try.func17.trans (congrArg some (by kernel_rfl))⟩
  f7 := ⟨Try.f23.name, by decide, Try.func23.trans (congrArg some (by kernel_rfl))⟩
  t3 := Try.underlying3
  a3 := Try.isAgg3
  z3 := Try.sizeOf3
  v3 := Try.zeroValue3
  t4 := Try.underlying4
  a4 := Try.isAgg4
  z4 := Try.sizeOf4
  v4 := Try.zeroValue4
  t22 := Try.underlying3
  a22 := Try.isAgg3
  z22 := Try.sizeOf3
  v22 := Try.zeroValue3 }

theorem ilaw : Keyed Try.prog 3 := int_keyed Try.underlying3
theorem zeroI (w : World) : (zeroValue 3).run Try.prog w = .ok (.int .i64 0) w := by kernel_rfl

theorem lit_inj {a b : Int} (h : (DataW.lit (.int .i64 a) : DataW Unit) = .lit (.int .i64 b)) : a = b := by
  injection h with h
  injection h
def wfI (x : Int) : Prop := (Lit.int .i64 x).wf = true
def valE (E : List (Int × Int)) (x : Int) : Int := ((E.find? fun p => p.1 == x).map fun p => p.2).getD 0
def hasE (E : List (Int × Int)) (x : Int) : Bool := E.any fun p => p.1 == x
/-- A map that holds just these. -/
structure Rep (D : DataW Unit) (E : List (Int × Int)) : Prop where
  has : ∀ x, wfI x → Maps.has D (.int .i64 x) = hasE E x
  val : ∀ x, wfI x → D.atKey (.int .i64 x) (.lit (.int .i64 0)) = .lit (.int .i64 (valE E x))
  size : Maps.size D = E.length
  apart : (E.map Prod.fst).Nodup
  wf : ∀ p ∈ E, wfI p.1 ∧ wfI p.2
def MapAt (w : World) (b : Nat) (E : List (Int × Int)) : Prop := ∃ D, w.ownsMap Try.prog 3 (plainElem Try.prog 3) b E.length D ∧ Rep D E
theorem MapAt.kept {w w' : World} {b : Nat} {E : List (Int × Int)} {row : Option Nat} (h : MapAt w b E) (hg : w.grownBy w' row) (hne : some b ≠ row) : MapAt w' b E := by
  obtain ⟨D, h1, h2⟩ := h
  exact ⟨D, h1.kept hg hne, h2⟩
theorem MapAt.lt {w : World} {b : Nat} {E : List (Int × Int)} (h : MapAt w b E) : b < w.heap.size := by
  obtain ⟨D, h1, h2⟩ := h
  exact h1.lt

/-- Which comes first: more room, then the smaller number. -/
def cfE (E : List (Int × Int)) (x y : Int) : Int := if Lib.compareInt (valE E y) (valE E x) ≠ 0 then Lib.compareInt (valE E y) (valE E x) else Lib.compareInt x y
def ltE (E : List (Int × Int)) (x y : Int) : Bool := decide (valE E y < valE E x) || (valE E x == valE E y && decide (x < y))
theorem cfE_lt (E : List (Int × Int)) (x y : Int) : decide (cfE E x y < 0) = ltE E x y := by
  unfold cfE ltE Lib.compareInt
  by_cases h1 : valE E y < valE E x
  · simp [h1]
  · by_cases h2 : valE E x < valE E y
    · have h3 : valE E x ≠ valE E y := by omega
      simp [h1, h2, h3]
    · have h3 : valE E x = valE E y := by omega
      by_cases h4 : x < y
      · simp [h3, h4]
      · by_cases h5 : y < x <;> simp [h3, h4, h5]

theorem ccmp (r s : Int) (w : World) : Calls Try.prog 17 #[.int .i64 r, .int .i64 s] w fun e w' => e = .returned (.int .i64 (Lib.compareInt r s)) ∧ w = w' :=
  (AnyG.cmp_Compare_int cmpL r s w).mono fun _ _ ⟨h1, h2⟩ => ⟨h1, h2.symm⟩
set_option maxHeartbeats 1000000 in
theorem cmpOr (b : Nat) (r s : Int) (w : World) (h0 : w.cell? ⟨b, 0, none⟩ = some (.int .i64 r)) (h1 : w.cell? ⟨b, 1, none⟩ = some (.int .i64 s)) :
    Calls Try.prog 16 #[.slice (some ⟨b, 0, none⟩) 2 2] w fun e w' => e = .returned (.int .i64 (if r ≠ 0 then r else s)) ∧ w = w' := by
  by_cases hr : r = 0
  · subst hr
    rw [if_neg (by simp)]
    go_enter Try.func16, Try.ntmps16
    go_wp2_with fail
    go_loop [8] (fun i => i = .int .i64 0 ∨ i = .int .i64 1 ∨ (i = .int .i64 2 ∧ s = 0)) (fun i => 2 - (intOf i).toNat)
    case atStart => exact .inl rfl
    case round =>
      rcases hrel with rfl | rfl | ⟨rfl, rfl⟩
      · go_wp2_with fail
        go_round
        case rel => exact .inr (.inl rfl)
        case measure => simp [intOf]
      · by_cases hs : s = 0
        · subst hs
          go_wp2_with fail
          go_round
          case rel => exact .inr (.inr (by simp))
          case measure => simp [intOf]
        · have d : (s != 0) = true := by simpa using hs
          go_wp2_with fail
          go_ret
          exact ⟨rfl, rfl⟩
      · go_wp2_with fail
        go_ret
        exact ⟨rfl, rfl⟩
  · rw [if_pos hr]
    have d : (r != 0) = true := by simpa using hr
    go_enter Try.func16, Try.ntmps16
    go_wp2_with fail
    go_loop [8] (fun i => i = .int .i64 0) (fun i => 2 - (intOf i).toNat)
    case atStart => rfl
    case round =>
      subst hrel
      go_wp2_with fail
      go_ret
      exact ⟨rfl, rfl⟩

theorem World.cell_fresh0 (w : World) (cs : Array Value) (t : TypeId) : (w.alloc (.cells cs t)).cell? ⟨w.heap.size, 0, none⟩ = cs[0]? := (Blk.made w t cs).cell 0
theorem World.cell_fresh1 (w : World) (cs : Array Value) (t : TypeId) : (w.alloc (.cells cs t)).cell? ⟨w.heap.size, 1, none⟩ = cs[1]? := (Blk.made w t cs).cell 1
set_option maxHeartbeats 1000000 in
theorem closure15 (b mb : Nat) (E : List (Int × Int)) (x y : Int) (hx : wfI x) (hy : wfI y) (w : World) (hm : MapAt w b E) (hc : w.cell? ⟨mb, 0, none⟩ = some (.map (some b))) :
    Calls Try.prog 15 #[.int .i64 x, .int .i64 y, .pointer (some ⟨mb, 0, none⟩)] w fun e w' => e = .returned (.int .i64 (cfE E x y)) ∧ ∃ q os, w' = Sort.grow (w.drewN q) os := by
  obtain ⟨D, ho, hr⟩ := hm
  have HO := Lib.hid ho
  have hvx := hr.val x hx
  have hvy := hr.val y hy
  have VX := Lib.hid hvx
  have VY := Lib.hid hvy
  have HX := Lib.hid hx
  have HY := Lib.hid hy
  clear ho hr hvx hvy hx hy
  unfold cfE
  go_enter Try.func15, Try.ntmps15
  go_wp2_with (first
    | (at_lookup; refine wpList_lookup_own_int _ rfl (.tmp 6) (.tmp 7) 36 rfl 3 3 .i64 ilaw Try.underlying36 Try.underlying3 (zeroI _) b _ D rfl HO.out _ (.int .i64 y) rfl (keyOf_int_mk Try.underlying3 HY.out) ?_; intro c hat hwc; obtain rfl : c = valE E y := lit_inj (hat.symm.trans VY.out))
    | (at_lookup; refine wpList_lookup_own_int _ rfl (.tmp 9) (.tmp 10) 36 rfl 3 3 .i64 ilaw Try.underlying36 Try.underlying3 (zeroI _) b _ D rfl HO.out _ (.int .i64 x) rfl (keyOf_int_mk Try.underlying3 HX.out) ?_; intro c hat hwc; obtain rfl : c = valE E x := lit_inj (hat.symm.trans VX.out))
    | (go_at_call 17; refine (ccmp _ _ _).mono ?_; rintro e w1 ⟨rfl, rfl⟩)
    | (go_at_call 16; refine (cmpOr w.heap.size (Lib.compareInt (valE E y) (valE E x)) (Lib.compareInt x y) _ (by exact World.cell_fresh0 _ _ _) (by exact World.cell_fresh1 _ _ _)).mono ?_; rintro e w2 ⟨rfl, rfl⟩))
  all_goals
    go_ret
    exact ⟨rfl, 0, #[_], Sort.alloc_eq_grow _ _⟩
end Go.Proofs.Ytjeccacacecdfaa
