/- Comparisons; which of two copies is better. No condition beyond those that each theorem states. -/
import Derived.Test.YthceidacmeadkaaS5
import Derived.Laws.Cover1
import Derived.Deep.RegionHeld
import Derived.Deep.DrawnRows
namespace Go.Proofs.Ythceidacmeadkaa
open Go.RowKit
attribute [local go_sem] Oper.semAt_some

def cmpI (x y : Int) : Int := if x < y then -1 else if y < x then 1 else 0
theorem sIsNanI (x : Int) (w : World) : Calls Try.prog 54 #[.int .i64 x] w fun e w' => e = .returned (.bool false) ∧ w = w' := by
  have h : (x != x) = false := by simp
  go_enter Try.func54, Try.ntmps54
  go_wp2_with fail
  go_ret
  exact ⟨rfl, rfl⟩
theorem sIsNanS (x : Str) (w : World) : Calls Try.prog 48 #[strV x] w fun e w' => e = .returned (.bool false) ∧ w = w' := by
  have h : (x != x) = false := by simp
  go_enter Try.func48, Try.ntmps48
  go_wp2_with fail
  go_ret
  exact ⟨rfl, rfl⟩
theorem sCmpI (x y : Int) (w : World) : Calls Try.prog 45 #[.int .i64 x, .int .i64 y] w fun e w' => e = .returned (.int .i64 (cmpI x y)) ∧ w = w' := by
  unfold cmpI
  by_cases h1 : x < y
  · have d1 : decide (x < y) = true := by simpa using h1
    rw [if_pos h1]
    clear h1
    go_enter Try.func45, Try.ntmps45
    go_wp2_with (
      go_at_call 54
      refine (sIsNanI _ w).mono ?_
      rintro e w1 ⟨rfl, rfl⟩)
    go_ret
    exact ⟨rfl, rfl⟩
  · have d1 : decide (x < y) = false := by simpa using h1
    rw [if_neg h1]
    by_cases h2 : y < x
    · have d2 : decide (y < x) = true := by simpa using h2
      rw [if_pos h2]
      clear h1 h2
      go_enter Try.func45, Try.ntmps45
      go_wp2_with (
        go_at_call 54
        refine (sIsNanI _ w).mono ?_
        rintro e w1 ⟨rfl, rfl⟩)
      go_ret
      exact ⟨rfl, rfl⟩
    · have d2 : decide (y < x) = false := by simpa using h2
      rw [if_neg h2]
      clear h1 h2
      go_enter Try.func45, Try.ntmps45
      go_wp2_with (
        go_at_call 54
        refine (sIsNanI _ w).mono ?_
        rintro e w1 ⟨rfl, rfl⟩)
      go_ret
      exact ⟨rfl, rfl⟩
def cmpS (x y : Str) : Int := if Op.bytesLess x y then -1 else if x = y then 0 else 1
theorem sCmpS (x y : Str) (w : World) : Calls Try.prog 24 #[strV x, strV y] w fun e w' => e = .returned (.int .i64 (cmpS x y)) ∧ w = w' := by
  unfold cmpS
  cases h1 : Op.bytesLess x y with
  | true =>
    rw [if_pos rfl]
    go_enter Try.func24, Try.ntmps24
    go_wp2_with (
      go_at_call 48
      refine (sIsNanS _ w).mono ?_
      rintro e w1 ⟨rfl, rfl⟩)
    go_ret
    exact ⟨rfl, rfl⟩
  | false =>
    rw [if_neg (by simp)]
    by_cases h2 : x = y
    · have d2 : (x == y) = true := by simpa using h2
      rw [if_pos h2]
      clear h2
      go_enter Try.func24, Try.ntmps24
      go_wp2_with (
        go_at_call 48
        refine (sIsNanS _ w).mono ?_
        rintro e w1 ⟨rfl, rfl⟩)
      go_ret
      exact ⟨rfl, rfl⟩
    · have d2 : (x == y) = false := by simpa using h2
      rw [if_neg h2]
      clear h2
      go_enter Try.func24, Try.ntmps24
      go_wp2_with (
        go_at_call 48
        refine (sIsNanS _ w).mono ?_
        rintro e w1 ⟨rfl, rfl⟩)
      go_ret
      exact ⟨rfl, rfl⟩
def orL (R : List Int) : Int := (R.find? fun r => r != 0).getD 0
theorem sOrL (b : Nat) (R : List Int) (n : Nat) (hn : R.length = n) (hn4 : n ≤ 100) (w : World) (h : ∀ i r, R[i]? = some r → w.cell? ⟨b, i, none⟩ = some (.int .i64 r)) :
    Calls Try.prog 44 #[.slice (some ⟨b, 0, none⟩) n n] w fun e w' => e = .returned (.int .i64 (orL R)) ∧ w = w' := by
  have H := Lib.hid h
  have HN := Lib.hid hn
  clear h hn
  go_enter Try.func44, Try.ntmps44
  go_wp2_with fail
  go_loopw [8] (fun v wr => ∃ i : Nat, v = .int .i64 i ∧ i ≤ n ∧ orL R = orL (R.drop i) ∧ w = wr) (fun v _ => n - (intOf v).toNat)
  case atStart => exact ⟨0, rfl, Nat.zero_le _, rfl, rfl⟩
  case round =>
    obtain ⟨i, rfl, hin, ho, hw⟩ := hrel
    have HO := Lib.hid ho
    subst hw
    clear ho
    by_cases hlt : i < n
    · obtain ⟨r, hr⟩ : ∃ r, R[i]? = some r := ⟨_, List.getElem?_eq_getElem (by rw [HN.out]; exact hlt)⟩
      have k0 : w.cell? ⟨b, i, none⟩ = some (.int .i64 r) := H.out i r hr
      have hd : R.drop i = r :: R.drop (i + 1) := by
        obtain ⟨hi, he⟩ := List.getElem?_eq_some_iff.1 hr
        rw [List.drop_eq_getElem_cons hi, he]
      have HD := Lib.hid hd
      have f1 : decide ((i : Int) < (n : Int)) = true := decide_eq_true (by omega)
      have f2 : (i : Int) < (n : Int) := by omega
      have f3 : (0 : Int) ≤ (i : Int) := by omega
      have p1 : IntKind.i64.wrap ((i : Int) + 1) = ((i + 1 : Nat) : Int) := by rw [IntWalk.i64_in _ (by omega)]; omega
      clear hr hd
      by_cases hz : r = 0
      · have q1 : (r != 0) = false := by simpa using hz
        have HZ := Lib.hid hz
        clear hz
        go_wp2_with fail
        go_roundw
        case rel => exact ⟨i + 1, by simp, hlt, by rw [HO.out, HD.out, HZ.out]; rfl, trivial⟩
        case measure =>
          simp only [intOf]
          omega
      · have q1 : (r != 0) = true := by simpa using hz
        have V := Lib.hid (show orL R = r by rw [HO.out, HD.out]; unfold orL; rw [List.find?_cons, q1]; rfl)
        clear hz
        go_wp2_with fail
        go_ret
        exact ⟨by rw [V.out]; rfl, rfl⟩
    · have hie : i = n := by omega
      have f1 : decide ((i : Int) < (n : Int)) = false := decide_eq_false (by omega)
      have f2 : ¬ (i : Int) < (n : Int) := by omega
      have V := Lib.hid (show orL R = 0 by rw [HO.out, List.drop_of_length_le (by rw [HN.out]; omega)]; rfl)
      clear hie
      go_wp2_with fail
      go_ret
      exact ⟨by rw [V.out]; rfl, rfl⟩
theorem sOr4 (b : Nat) (r0 r1 r2 r3 : Int) (w : World) (h0 : w.cell? ⟨b, 0, none⟩ = some (.int .i64 r0)) (h1 : w.cell? ⟨b, 1, none⟩ = some (.int .i64 r1)) (h2 : w.cell? ⟨b, 2, none⟩ = some (.int .i64 r2)) (h3 : w.cell? ⟨b, 3, none⟩ = some (.int .i64 r3)) :
    Calls Try.prog 44 #[.slice (some ⟨b, 0, none⟩) 4 4] w fun e w' => e = .returned (.int .i64 (orL [r0, r1, r2, r3])) ∧ w = w' :=
  sOrL b [r0, r1, r2, r3] 4 rfl (by omega) w (fun i r hr => by
    match i, hr with
    | 0, hr => cases hr; exact h0
    | 1, hr => cases hr; exact h1
    | 2, hr => cases hr; exact h2
    | 3, hr => cases hr; exact h3)
theorem take_list {l : List Oper} {i : Nat} {o : Oper} (h : l[i]? = some o) : l.toArray[i]? = some o := by simpa using h
theorem cell_kept {w : World} {b i : Nat} {v : Value} (h : w.cell? ⟨b, i, none⟩ = some v) (o : Obj) : (w.alloc o).cell? ⟨b, i, none⟩ = some v :=
  keepc ((Below.refl w.heap.size w).alloc (Nat.le_refl _) o) (World.block_lt_of_cell? _ _ h) h
/-- A copy that could be the one of its key. -/
def choiceCells (b : BlobV) (P : Value) (least : Int) : Array Value := #[strV b.key, .int .i64 b.gen, .int .i64 b.groups, .int .i64 b.size, strV b.sum, P, .int .i64 least]
def betterV (x : BlobV) (lx : Int) (y : BlobV) (ly : Int) : Bool := decide (orL [cmpI ly lx, cmpI y.gen x.gen, cmpI x.size y.size, cmpS x.sum y.sum] < 0)
set_option maxHeartbeats 8000000 in
set_option maxRecDepth 100000 in
theorem sBetter (x y : BlobV) (lx ly : Int) (P Q : Value) (w : World) : Calls Try.prog 21 #[.agg (choiceCells x P lx), .agg (choiceCells y Q ly)] w fun e w' => e = .returned (.bool (betterV x lx y ly)) ∧ Below w.heap.size w w' := by
  unfold choiceCells
  obtain ⟨w0, hw0⟩ : ∃ z, (w.alloc (.cells (choiceCells x P lx) 62)).alloc (.cells (choiceCells y Q ly) 62) = z := ⟨_, rfl⟩
  have B0 := Lib.hid (show Below w.heap.size w w0 by rw [← hw0]; exact ((Below.refl _ w).alloc (Nat.le_refl _) _).alloc (by simp) _)
  have X0 := Lib.hid (show Blk w0 w.heap.size 62 (choiceCells x P lx) by rw [← hw0]; exact (Blk.made _ _ _).alloc _)
  have Y0 := Lib.hid (show Blk w0 (w.heap.size + 1) 62 (choiceCells y Q ly) by rw [← hw0]; exact Blk.made' _ _ _ (by simp))
  simp only [choiceCells] at hw0
  go_enter Try.func21, Try.ntmps21
  go_upto_region 1 with fail
  clear hw0
  have h0 : w0.cell? ⟨w.heap.size, 1, none⟩ = some (.int .i64 x.gen) := X0.out.cell 1
  have h1 : w0.cell? ⟨w.heap.size, 3, none⟩ = some (.int .i64 x.size) := X0.out.cell 3
  have h2 : w0.cell? ⟨w.heap.size, 4, none⟩ = some (strV x.sum) := X0.out.cell 4
  have h3 : w0.cell? ⟨w.heap.size, 6, none⟩ = some (.int .i64 lx) := X0.out.cell 6
  have h4 : w0.cell? ⟨w.heap.size + 1, 1, none⟩ = some (.int .i64 y.gen) := Y0.out.cell 1
  have h5 : w0.cell? ⟨w.heap.size + 1, 3, none⟩ = some (.int .i64 y.size) := Y0.out.cell 3
  have h6 : w0.cell? ⟨w.heap.size + 1, 4, none⟩ = some (strV y.sum) := Y0.out.cell 4
  have h7 : w0.cell? ⟨w.heap.size + 1, 6, none⟩ = some (.int .i64 ly) := Y0.out.cell 6
  refine wp_region_held_drew (S := (fun w' => w'.cell? ⟨w.heap.size, 1, none⟩ = some (.int .i64 x.gen) ∧ w'.cell? ⟨w.heap.size, 3, none⟩ = some (.int .i64 x.size) ∧ w'.cell? ⟨w.heap.size, 4, none⟩ = some (strV x.sum) ∧ w'.cell? ⟨w.heap.size, 6, none⟩ = some (.int .i64 lx) ∧ w'.cell? ⟨w.heap.size + 1, 1, none⟩ = some (.int .i64 y.gen) ∧ w'.cell? ⟨w.heap.size + 1, 3, none⟩ = some (.int .i64 y.size) ∧ w'.cell? ⟨w.heap.size + 1, 4, none⟩ = some (strV y.sum) ∧ w'.cell? ⟨w.heap.size + 1, 6, none⟩ = some (.int .i64 ly))) (by kernel_rfl) ⟨h0, h1, h2, h3, h4, h5, h6, h7⟩ (fun hHeld => ?_)
  refine wpAnyH_take (i := 0) (v := ?vBtn10) (take_list rfl) (by kernel_rfl) (by kernel_rfl) (by kernel_rfl) (fun _ _ _ h => h) (Or.inl ⟨by rfl, ?hyBtn10⟩) (by assumption) ?restBtn10
  case hyBtn10 => (intro w hSw; (try dsimp only at hSw); go_simp <;> with_reducible rfl)
  try simp only [Act.put, List.setIfInBounds_toArray, List.set_cons_zero, List.set_cons_succ]
  refine wpAnyH_take (i := 1) (v := ?vBtn11) (take_list rfl) (by kernel_rfl) (by kernel_rfl) (by kernel_rfl) (fun _ _ _ h => h) (Or.inl ⟨by rfl, ?hyBtn11⟩) (by assumption) ?restBtn11
  case hyBtn11 => (intro w hSw; (try dsimp only at hSw); go_simp <;> with_reducible rfl)
  try simp only [Act.put, List.setIfInBounds_toArray, List.set_cons_zero, List.set_cons_succ]
  refine wpAnyH_take (i := 2) (v := ?vBtn12) (take_list rfl) (by kernel_rfl) (by kernel_rfl) (by kernel_rfl) (fun _ _ _ h => h) (Or.inl ⟨by rfl, ?hyBtn12⟩) (by assumption) ?restBtn12
  case hyBtn12 => (intro w hSw; (try dsimp only at hSw); go_simp <;> with_reducible rfl)
  try simp only [Act.put, List.setIfInBounds_toArray, List.set_cons_zero, List.set_cons_succ]
  refine wpAnyH_take (i := 3) (v := ?vBtn13) (take_list rfl) (by kernel_rfl) (by kernel_rfl) (by kernel_rfl) (fun _ _ _ h => h) (Or.inl ⟨by rfl, ?hyBtn13⟩) (by assumption) ?restBtn13
  case hyBtn13 => (intro w hSw; (try dsimp only at hSw); go_simp <;> with_reducible rfl)
  try simp only [Act.put, List.setIfInBounds_toArray, List.set_cons_zero, List.set_cons_succ]
  refine wpAnyH_take (i := 5) (v := ?vBtn15) (take_list rfl) (by kernel_rfl) (by kernel_rfl) (by kernel_rfl) (fun _ _ _ h => h) (Or.inl ⟨by rfl, ?hyBtn15⟩) (by assumption) ?restBtn15
  case hyBtn15 => (intro w hSw; (try dsimp only at hSw); go_simp <;> with_reducible rfl)
  try simp only [Act.put, List.setIfInBounds_toArray, List.set_cons_zero, List.set_cons_succ]
  refine wpAnyH_take (i := 6) (v := ?vBtn16) (take_list rfl) (by kernel_rfl) (by kernel_rfl) (by kernel_rfl) (fun _ _ _ h => h) (Or.inl ⟨by rfl, ?hyBtn16⟩) (by assumption) ?restBtn16
  case hyBtn16 => (intro w hSw; (try dsimp only at hSw); go_simp <;> with_reducible rfl)
  try simp only [Act.put, List.setIfInBounds_toArray, List.set_cons_zero, List.set_cons_succ]
  refine wpAnyH_take (i := 7) (v := ?vBtn17) (take_list rfl) (by kernel_rfl) (by kernel_rfl) (by kernel_rfl) (fun _ _ _ h => h) (Or.inl ⟨by rfl, ?hyBtn17⟩) (by assumption) ?restBtn17
  case hyBtn17 => (intro w hSw; (try dsimp only at hSw); go_simp <;> with_reducible rfl)
  try simp only [Act.put, List.setIfInBounds_toArray, List.set_cons_zero, List.set_cons_succ]
  refine wpAnyH_take (i := 8) (v := ?vBtn18) (take_list rfl) (by kernel_rfl) (by kernel_rfl) (by kernel_rfl) (fun _ _ _ h => h) (Or.inl ⟨by rfl, ?hyBtn18⟩) (by assumption) ?restBtn18
  case hyBtn18 => (intro w hSw; (try dsimp only at hSw); go_simp <;> with_reducible rfl)
  try simp only [Act.put, List.setIfInBounds_toArray, List.set_cons_zero, List.set_cons_succ]
  refine wpAnyH_take (i := 9) (v := ?vBtn19) (take_list rfl) (by kernel_rfl) (by kernel_rfl) (by kernel_rfl) (fun _ _ _ h => h) (Or.inl ⟨by rfl, ?hyBtn19⟩) (by assumption) ?restBtn19
  case hyBtn19 => (intro w hSw; (try dsimp only at hSw); go_simp <;> with_reducible rfl)
  try simp only [Act.put, List.setIfInBounds_toArray, List.set_cons_zero, List.set_cons_succ]
  refine wpAnyH_take (i := 10) (v := ?vBtn110) (take_list rfl) (by kernel_rfl) (by kernel_rfl) (by kernel_rfl) (fun _ _ _ h => h) (Or.inl ⟨by rfl, ?hyBtn110⟩) (by assumption) ?restBtn110
  case hyBtn110 => (intro w hSw; (try dsimp only at hSw); go_simp <;> with_reducible rfl)
  try simp only [Act.put, List.setIfInBounds_toArray, List.set_cons_zero, List.set_cons_succ]
  refine wpAnyH_take (i := 12) (v := ?vBtn112) (take_list rfl) (by kernel_rfl) (by kernel_rfl) (by kernel_rfl) (fun _ _ _ h => h) (Or.inl ⟨by rfl, ?hyBtn112⟩) (by assumption) ?restBtn112
  case hyBtn112 => (intro w hSw; (try dsimp only at hSw); go_simp <;> with_reducible rfl)
  try simp only [Act.put, List.setIfInBounds_toArray, List.set_cons_zero, List.set_cons_succ]
  refine wpAnyH_take (i := 13) (v := ?vBtn113) (take_list rfl) (by kernel_rfl) (by kernel_rfl) (by kernel_rfl) (fun _ _ _ h => h) (Or.inl ⟨by rfl, ?hyBtn113⟩) (by assumption) ?restBtn113
  case hyBtn113 => (intro w hSw; (try dsimp only at hSw); go_simp <;> with_reducible rfl)
  try simp only [Act.put, List.setIfInBounds_toArray, List.set_cons_zero, List.set_cons_succ]
  refine wpAnyH_take (i := 14) (v := ?vBtn114) (take_list rfl) (by kernel_rfl) (by kernel_rfl) (by kernel_rfl) (fun _ _ _ h => h) (Or.inl ⟨by rfl, ?hyBtn114⟩) (by assumption) ?restBtn114
  case hyBtn114 => (intro w hSw; (try dsimp only at hSw); go_simp <;> with_reducible rfl)
  try simp only [Act.put, List.setIfInBounds_toArray, List.set_cons_zero, List.set_cons_succ]
  refine wpAnyH_take (i := 15) (v := ?vBtn115) (take_list rfl) (by kernel_rfl) (by kernel_rfl) (by kernel_rfl) (fun _ _ _ h => h) (Or.inl ⟨by rfl, ?hyBtn115⟩) (by assumption) ?restBtn115
  case hyBtn115 => (intro w hSw; (try dsimp only at hSw); go_simp <;> with_reducible rfl)
  try simp only [Act.put, List.setIfInBounds_toArray, List.set_cons_zero, List.set_cons_succ]
  refine wpAnyH_take (i := 16) (v := ?vBtn116) (take_list rfl) (by kernel_rfl) (by kernel_rfl) (by kernel_rfl) (fun _ _ _ h => h) (Or.inl ⟨by rfl, ?hyBtn116⟩) (by assumption) ?restBtn116
  case hyBtn116 => (intro w hSw; (try dsimp only at hSw); go_simp <;> with_reducible rfl)
  try simp only [Act.put, List.setIfInBounds_toArray, List.set_cons_zero, List.set_cons_succ]
  refine wpAnyH_take (i := 17) (v := ?vBtn117) (take_list rfl) (by kernel_rfl) (by kernel_rfl) (by kernel_rfl) (fun _ _ _ h => h) (Or.inl ⟨by rfl, ?hyBtn117⟩) (by assumption) ?restBtn117
  case hyBtn117 => (intro w hSw; (try dsimp only at hSw); go_simp <;> with_reducible rfl)
  try simp only [Act.put, List.setIfInBounds_toArray, List.set_cons_zero, List.set_cons_succ]
  refine wpAnyH_take (i := 19) (v := ?vBtn119) (take_list rfl) (by kernel_rfl) (by kernel_rfl) (by kernel_rfl) (fun _ _ _ h => h) (Or.inl ⟨by rfl, ?hyBtn119⟩) (by assumption) ?restBtn119
  case hyBtn119 => (intro w hSw; (try dsimp only at hSw); go_simp <;> with_reducible rfl)
  try simp only [Act.put, List.setIfInBounds_toArray, List.set_cons_zero, List.set_cons_succ]
  refine wpAnyH_take (i := 20) (v := ?vBtn120) (take_list rfl) (by kernel_rfl) (by kernel_rfl) (by kernel_rfl) (fun _ _ _ h => h) (Or.inl ⟨by rfl, ?hyBtn120⟩) (by assumption) ?restBtn120
  case hyBtn120 => (intro w hSw; (try dsimp only at hSw); go_simp <;> with_reducible rfl)
  try simp only [Act.put, List.setIfInBounds_toArray, List.set_cons_zero, List.set_cons_succ]
  refine wpAnyH_take (i := 21) (v := ?vBtn121) (take_list rfl) (by kernel_rfl) (by kernel_rfl) (by kernel_rfl) (fun _ _ _ h => h) (Or.inl ⟨by rfl, ?hyBtn121⟩) (by assumption) ?restBtn121
  case hyBtn121 => (intro w hSw; (try dsimp only at hSw); go_simp <;> with_reducible rfl)
  try simp only [Act.put, List.setIfInBounds_toArray, List.set_cons_zero, List.set_cons_succ]
  refine wpAnyH_take (i := 22) (v := ?vBtn122) (take_list rfl) (by kernel_rfl) (by kernel_rfl) (by kernel_rfl) (fun _ _ _ h => h) (Or.inl ⟨by rfl, ?hyBtn122⟩) (by assumption) ?restBtn122
  case hyBtn122 => (intro w hSw; (try dsimp only at hSw); go_simp <;> with_reducible rfl)
  try simp only [Act.put, List.setIfInBounds_toArray, List.set_cons_zero, List.set_cons_succ]
  refine wpAnyH_take (i := 23) (v := ?vBtn123) (take_list rfl) (by kernel_rfl) (by kernel_rfl) (by kernel_rfl) (fun _ _ _ h => h) (Or.inl ⟨by rfl, ?hyBtn123⟩) (by assumption) ?restBtn123
  case hyBtn123 => (intro w hSw; (try dsimp only at hSw); go_simp <;> with_reducible rfl)
  try simp only [Act.put, List.setIfInBounds_toArray, List.set_cons_zero, List.set_cons_succ]
  refine wpAnyH_take (i := 24) (v := ?vBtn124) (take_list rfl) (by kernel_rfl) (by kernel_rfl) (by kernel_rfl) (fun _ _ _ h => h) (Or.inl ⟨by rfl, ?hyBtn124⟩) (by assumption) ?restBtn124
  case hyBtn124 => (intro w hSw; (try dsimp only at hSw); go_simp <;> with_reducible rfl)
  try simp only [Act.put, List.setIfInBounds_toArray, List.set_cons_zero, List.set_cons_succ]
  refine wpAnyH_ready (rs := [4]) (by kernel_rfl) (by simp) ?_
  refine AllReadyH.cons rfl (fun K hK => ?_) AllReadyH.nil
  go_simp
  go_wp2_with (go_at_call 45; refine (sCmpI _ _ _).mono ?_; rintro e w7 ⟨rfl, rfl⟩)
  refine hK.out _ _ hHeld (fun hHeld => ?_)
  clear hK K
  refine wpAnyH_ready (rs := [11]) (by kernel_rfl) (by simp) ?_
  refine AllReadyH.cons rfl (fun K hK => ?_) AllReadyH.nil
  go_simp
  go_wp2_with (go_at_call 45; refine (sCmpI _ _ _).mono ?_; rintro e w7 ⟨rfl, rfl⟩)
  refine hK.out _ _ hHeld (fun hHeld => ?_)
  clear hK K
  refine wpAnyH_ready (rs := [18]) (by kernel_rfl) (by simp) ?_
  refine AllReadyH.cons rfl (fun K hK => ?_) AllReadyH.nil
  go_simp
  go_wp2_with (go_at_call 45; refine (sCmpI _ _ _).mono ?_; rintro e w7 ⟨rfl, rfl⟩)
  refine hK.out _ _ hHeld (fun hHeld => ?_)
  clear hK K
  refine wpAnyH_ready (rs := [25]) (by kernel_rfl) (by simp) ?_
  refine AllReadyH.cons rfl (fun K hK => ?_) AllReadyH.nil
  go_simp
  go_wp2_with (go_at_call 24; refine (sCmpS _ _ _).mono ?_; rintro e w7 ⟨rfl, rfl⟩)
  refine hK.out _ _ hHeld (fun hHeld => ?_)
  clear hK K
  refine wpAnyH_ready (rs := [26]) (by kernel_rfl) (by simp) ?_
  refine AllReadyH.cons rfl (fun K hK => ?_) AllReadyH.nil
  go_simp
  clear hHeld
  refine hK.out _ _ (by obtain ⟨a0, a1, a2, a3, a4, a5, a6, a7⟩ := hHeld; exact ⟨cell_kept a0 _, cell_kept a1 _, cell_kept a2 _, cell_kept a3 _, cell_kept a4 _, cell_kept a5 _, cell_kept a6 _, cell_kept a7 _⟩) (fun hHeld => ?_)
  clear hK K
  refine wpAnyH_ready (rs := [27]) (by kernel_rfl) (by simp) ?_
  refine AllReadyH.cons rfl (fun K hK => ?_) AllReadyH.nil
  go_simp
  go_wp2_with (go_at_call 44; refine (sOr4 _ _ _ _ _ _ (by exact (Blk.made _ 3 _).cell 0) (by exact (Blk.made _ 3 _).cell 1) (by exact (Blk.made _ 3 _).cell 2) (by exact (Blk.made _ 3 _).cell 3)).mono ?_; rintro e w8 ⟨rfl, rfl⟩)
  refine hK.out _ _ hHeld (fun hHeld => ?_)
  clear hK K
  refine wpAnyH_take (i := 28) (v := ?vBtn128) (take_list rfl) (by kernel_rfl) (by kernel_rfl) (by kernel_rfl) (fun _ _ _ h => h) (Or.inl ⟨by rfl, ?hyBtn128⟩) (by assumption) ?restBtn128
  case hyBtn128 => (intro w hSw; (try dsimp only at hSw); go_simp <;> with_reducible rfl)
  try simp only [Act.put, List.setIfInBounds_toArray, List.set_cons_zero, List.set_cons_succ]
  refine wpAnyH_take (i := 29) (v := ?vBtn129) (take_list rfl) (by kernel_rfl) (by kernel_rfl) (by kernel_rfl) (fun _ _ _ h => h) (Or.inl ⟨by rfl, ?hyBtn129⟩) (by assumption) ?restBtn129
  case hyBtn129 => (intro w hSw; (try dsimp only at hSw); go_simp <;> with_reducible rfl)
  try simp only [Act.put, List.setIfInBounds_toArray, List.set_cons_zero, List.set_cons_succ]
  refine wpAnyH_done (by kernel_rfl) ?_ _
  go_wp2_with fail
  go_ret
  exact ⟨rfl, (below_drew3 B0.out).alloc B0.out.size _⟩
end Go.Proofs.Ythceidacmeadkaa
