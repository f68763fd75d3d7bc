/- A copy of which few shards lack is found: the walk. No condition beyond those that each theorem states. -/
import Derived.Test.YthceidacmeadkaaSL
namespace Go.Proofs.Ythceidacmeadkaa
open Go.RowKit Go.Maps Go.WideMaps Go.Sort
attribute [local go_sem] Oper.semAt_some

theorem foundVals_app (P Q : List FoundP) : foundVals (P ++ Q) = foundVals P ++ foundVals Q := by simp [foundVals]
theorem int_info : (Try.prog.info? 3).map (fun i => (i.zero, i.size, i.bytes)) = some (some (.int .i64 0), 1, 8) := by kernel_rfl
def lackB (x t : Nat) : Bool := (bits .and .u16 ((x : Int) / 2 ^ min (IntKind.u64.wrap (t : Int)).toNat 16) 1 == 1)
def keepF (ls : List Nat) (s : Nat) : Bool := !(decide (s / 10 < ls.length) && lackB ((ls[s / 10]?).getD 0) (s % 10))
def lostN (keep : Nat → Bool) (i j : Nat) : Nat := (List.range i).countP fun s => decide (s / 10 = j) && !keep s
def lostVs (keep : Nat → Bool) (i : Nat) : Array Value := #[.int .i64 (lostN keep i 0 : Int), .int .i64 (lostN keep i 1 : Int), .int .i64 (lostN keep i 2 : Int), .int .i64 (lostN keep i 3 : Int)]
def mostN (keep : Nat → Bool) (i mx : Nat) : Prop := (∀ j, j < 4 → lostN keep i j ≤ mx) ∧ (mx = 0 ∨ ∃ j, j < 4 ∧ lostN keep i j = mx)
theorem lost_get (keep : Nat → Bool) (i : Nat) {j : Nat} (hj : j < 4) : (lostVs keep i)[j]? = some (.int .i64 (lostN keep i j : Int)) := by
  rcases (show j = 0 ∨ j = 1 ∨ j = 2 ∨ j = 3 by omega) with rfl | rfl | rfl | rfl <;> rfl
theorem lost_succ (keep : Nat → Bool) (i j : Nat) : lostN keep (i + 1) j = lostN keep i j + (if i / 10 = j ∧ keep i = false then 1 else 0) := by
  unfold lostN
  rw [List.range_succ, List.countP_append, List.countP_singleton]
  by_cases h1 : i / 10 = j
  · cases h2 : keep i <;> simp [h1]
  · simp [h1]
theorem lost_keep {keep : Nat → Bool} {i : Nat} (hk : keep i = true) : lostVs keep (i + 1) = lostVs keep i := by
  unfold lostVs
  simp only [lost_succ, hk, and_false, if_false, Nat.add_zero, reduceCtorEq]
theorem lost_put {keep : Nat → Bool} {i j : Nat} (hj : j < 4) (hij : i / 10 = j) (hk : keep i = false) : (lostVs keep i).setIfInBounds j (.int .i64 ((lostN keep i j + 1 : Nat) : Int)) = lostVs keep (i + 1) := by
  unfold lostVs
  rcases (show j = 0 ∨ j = 1 ∨ j = 2 ∨ j = 3 by omega) with rfl | rfl | rfl | rfl <;> simp [lost_succ, hk, hij]
theorem most_keep {keep : Nat → Bool} {i mx : Nat} (h : mostN keep i mx) (hk : keep i = true) : mostN keep (i + 1) mx := by
  have e : ∀ j, lostN keep (i + 1) j = lostN keep i j := fun j => by rw [lost_succ, hk]; simp
  unfold mostN
  simp only [e]
  exact h
theorem most_put {keep : Nat → Bool} {i j mx : Nat} (h : mostN keep i mx) (hj : j < 4) (hij : i / 10 = j) (hk : keep i = false) : mostN keep (i + 1) (max mx (lostN keep i j + 1)) := by
  obtain ⟨h1, h2⟩ := h
  have e : lostN keep (i + 1) j = lostN keep i j + 1 := by rw [lost_succ, if_pos ⟨hij, hk⟩]
  have e2 : ∀ j', j' ≠ j → lostN keep (i + 1) j' = lostN keep i j' := fun j' hj' => by rw [lost_succ, if_neg (fun hc => hj' (by omega))]; rfl
  refine ⟨fun j' hj' => ?_, ?_⟩
  · by_cases hjj : j' = j
    · subst hjj
      omega
    · rw [e2 j' hjj]
      have := h1 j' hj'
      omega
  · by_cases hle : mx ≤ lostN keep i j + 1
    · exact .inr ⟨j, hj, by omega⟩
    · rcases h2 with h2 | ⟨j', hj', h2⟩
      · omega
      · by_cases hjj : j' = j
        · subst hjj
          omega
        · exact .inr ⟨j', hj', by rw [e2 j' hjj]; omega⟩
theorem blk_drew {w : World} {g : Nat} {t : TypeId} {cs : Array Value} (h : Blk w g t cs) : Blk w.drew g t cs := h
theorem lost_none (keep : Nat → Bool) (j : Nat) : ∀ i, i ≤ j * 10 → lostN keep i j = 0
  | 0, _ => rfl
  | i + 1, h => by rw [lost_succ, lost_none keep j i (by omega), if_neg (fun hc => by omega)]
theorem lost_part (keep : Nat → Bool) (j : Nat) : ∀ k, k ≤ 10 → lostN keep (j * 10 + k) j + ((List.range k).countP fun i => keep (j * 10 + i)) = k
  | 0, _ => by rw [Nat.add_zero, lost_none keep j _ (Nat.le_refl _)]; rfl
  | k + 1, h => by
    have ih := lost_part keep j k (by omega)
    rw [← Nat.add_assoc, lost_succ, List.range_succ, List.countP_append, List.countP_singleton]
    cases hk : keep (j * 10 + k) with
    | true => rw [if_neg (fun hc => by cases hc.2)]; simp; omega
    | false => rw [if_pos ⟨by omega, rfl⟩]; simp; omega
theorem lost_rest (keep : Nat → Bool) (j : Nat) : ∀ r, lostN keep (j * 10 + 10 + r) j = lostN keep (j * 10 + 10) j
  | 0 => rfl
  | r + 1 => by rw [← Nat.add_assoc, lost_succ, lost_rest keep j r, if_neg (fun hc => by omega)]; rfl
theorem lost_cnt (keep : Nat → Bool) {j q : Nat} (hj : j < q) : lostN keep (q * 10) j + ((List.range 10).countP fun i => keep (j * 10 + i)) = 10 := by
  have h := lost_part keep j 10 (Nat.le_refl _)
  have h2 := lost_rest keep j (q * 10 - (j * 10 + 10))
  rw [show j * 10 + 10 + (q * 10 - (j * 10 + 10)) = q * 10 by omega] at h2
  rw [h2]
  exact h
set_option maxHeartbeats 8000000 in
set_option maxRecDepth 100000 in
theorem few_walk (size : Nat) (B : Option Addr) (n c : Nat) (ls : List Nat) (w : World) (hls : ls.length = n) (hnc : n ≤ c) (hcm : c ≤ maxLen)
    (hB : n = 0 ∨ ∃ b off, B = some ⟨b, off, none⟩ ∧ b < w.heap.size ∧ ∀ (i x : Nat), ls[i]? = some x → w.cell? ⟨b, off + i, none⟩ = some (.int .u16 (x : Int))) :
    Calls Try.prog 7 #[.int .u16 (size : Int), .slice B n c] w fun e w' => e = .returned (.bool true) ∧ Below w.heap.size w w' := by
  obtain ⟨i0, hi0, hz0, hz1, hz2⟩ := info_parts found_info
  obtain ⟨ii, hii, hzi0, hzi1, hzi2⟩ := info_parts int_info
  obtain ⟨sz, hsz⟩ : ∃ z : Nat, size % 513 = z := ⟨_, rfl⟩
  have p1 : (size : Int) % 513 = (sz : Int) := by omega
  have hsz5 : sz ≤ 512 := by omega
  clear hsz
  have CO := Lib.hid (show ∀ W, Calls Try.prog 17 #[.string ⟨#[107]⟩, .int .i64 7, .int .i64 (sz : Int), .int .i64 5] W fun e w' => ∃ (v : Value) (P : List FoundP) (q : Nat), e = .returned v ∧ (q : Int) = groupsV sz ∧ P.map strip = (List.range (q * 10)).map (shF [107] 7 sz q 5) ∧ w'.ownsRow W.heap.size 39 12 v P.length (foundVals P) ∧ Below W.heap.size W w' from fun W => sCopyOf [107] 7 sz 5 hsz5 (by omega) W)
  have HB := Lib.hid hB
  have HLS := Lib.hid hls
  have hn63 : n ≤ 9223372036854775807 := by simp only [maxLen] at hcm; omega
  have hmk : ∀ W : World, (Instr.makeSlice 48 (.int .i64 4) (.int .i64 4)).run Try.prog W = .ok (.slice (some ⟨W.heap.size, 0, none⟩) 4 4) (W.alloc (.cells #[.int .i64 0, .int .i64 0, .int .i64 0, .int .i64 0] 3)) := fun W => by
    have h := run_makeSlice (P := Try.prog) W 48 3 ii _ Try.underlying48 hii hzi0 .i64 .i64 4 4 (by decide) (by decide) (by rw [hzi1]; decide) (by rw [hzi2]; decide) (by decide)
    rw [hzi1, show madeCells (Value.int .i64 0).cells ((4 : Int).toNat * 1) = #[.int .i64 0, .int .i64 0, .int .i64 0, .int .i64 0] from by kernel_rfl] at h
    exact h
  clear hB hls hcm ii hii hzi0 hzi1 hzi2
  go_enter Try.func7, Try.ntmps7
  go_upto_region 2 with (go_at_call 17; (refine (CO.out _).mono ?_; rintro e w1 ⟨v, P, q, rfl, hq, hP, ho, hb⟩; have hl : P.length = q * 10 := (by have h := congrArg List.length hP; simpa using h); have hq1 : 1 ≤ q := (by unfold groupsV at hq; omega); have hq4 : q ≤ 4 := (by unfold groupsV at hq; omega); obtain ⟨B0, k0, rfl, hn0, hm0, hB0, _, hsh⟩ := own_srcv ho (fun h => by rw [List.eq_nil_of_length_eq_zero h]; simp [foundVals]); obtain ⟨gP, rfl, hgP0, hgP1⟩ : ∃ g, B0 = some ⟨g, 0, none⟩ ∧ w.heap.size ≤ g ∧ g < w1.heap.size := (by rcases hsh with h | h; exact absurd (hB0 h) (by omega); exact h); rw [hl] at ho hn0 ⊢; have HL := Lib.hid hl; have HP := Lib.hid hP; have OW := Lib.hid ho; have B1 := Lib.hid hb; have HQ := Lib.hid hq; clear hP ho hb hB0 hsh hl hq))
  have hzw : w.heap.size ≤ w1.heap.size := B1.out.size
  go_upto_region 5 with fail
  obtain ⟨w2, hw2⟩ : ∃ z, (w1.alloc (.cells #[] 39)).alloc (.cells #[.int .i64 0, .int .i64 0, .int .i64 0, .int .i64 0] 3) = z := ⟨_, rfl⟩
  have BL2 := Lib.hid (show Blk w2 (w1.heap.size + 1) 3 #[.int .i64 0, .int .i64 0, .int .i64 0, .int .i64 0] by rw [← hw2]; exact Blk.made' _ _ _ (by simp))
  have OS2 := Lib.hid (show w2.ownsRow w1.heap.size 39 12 (.slice (some ⟨w1.heap.size, 0, none⟩) 0 0) 0 [] by rw [← hw2]; exact (own_made _ _ 12 rfl (Nat.le_refl _)).alloc _)
  have B2 := Lib.hid (show Below w1.heap.size w1 w2 by rw [← hw2]; exact ((Below.refl _ w1).alloc (Nat.le_refl _) _).alloc (by simp) _)
  rw [hw2]
  clear hw2 hmk
  obtain ⟨keep, hkeep⟩ : ∃ keep : Nat → Bool, keepF ls = keep := ⟨_, rfl⟩
  have HK := Lib.hid hkeep
  clear hkeep
  go_wp2_with fail
  go_loopw [6, 7, 9] (fun v mv iv wr => ∃ (i m mx : Nat) (PS : List FoundP), iv = .int .i64 (i : Int) ∧ mv = .int .i64 (mx : Int) ∧ i ≤ q * 10 ∧ PS.length = m ∧ PS.map strip = ((List.range i).filter keep).map (shF [107] 7 sz q 5) ∧ wr.ownsRow w1.heap.size 39 12 v m (foundVals PS) ∧ (∀ g, v.ownBlock = some g → g ≠ w1.heap.size + 1) ∧ mostN keep i mx ∧ Blk wr (w1.heap.size + 1) 3 (lostVs keep i) ∧ Below w1.heap.size w1 wr) (fun _ _ iv _ => q * 10 - (intOf iv).toNat)
  case atStart => exact ⟨0, 0, 0, [], rfl, rfl, Nat.zero_le _, rfl, rfl, OS2.out, fun g hg => (by have e : w1.heap.size = g := Option.some.inj hg; omega), ⟨fun j _ => Nat.le_refl _, .inl rfl⟩, BL2.out, B2.out⟩
  case round =>
    obtain ⟨i, m, mx, PS, rfl, rfl, hiq, hPm, hPs, hrow, hng, hmx, hbl, hbw⟩ := hrel
    obtain ⟨wo, rfl⟩ : ∃ wo : World, wo = wr := ⟨_, rfl⟩
    have HPM := Lib.hid hPm
    have HPS := Lib.hid hPs
    have RW := Lib.hid hrow
    have NG := Lib.hid hng
    have MX := Lib.hid hmx
    have BL := Lib.hid hbl
    have BW := Lib.hid hbw
    have hzo : w1.heap.size + 1 < wo.heap.size := hbl.size
    have hm40 : m ≤ 40 := by have h := congrArg List.length hPs; simp only [List.length_map] at h; have h2 := List.length_filter_le keep (List.range i); rw [List.length_range] at h2; omega
    obtain ⟨A1, k1, rfl, hn1, hc1, hA1⟩ := own_form hrow
    clear hPm hPs hrow hng hmx hbl hbw
    by_cases hlt : i < q * 10
    · have f1 : decide (i < q * 10) = true := decide_eq_true hlt
      have f2 : decide ((i : Int) < ((q * 10 : Nat) : Int)) = true := decide_eq_true (by omega)
      have f3 : (i : Int) < ((q * 10 : Nat) : Int) := by omega
      have f0 : (0 : Int) ≤ (i : Int) := by omega
      have f5 : decide ((i : Int) < (q : Int) * 10) = true := decide_eq_true (by omega)
      have f6 : (i : Int) < (q : Int) * 10 := by omega
      obtain ⟨p, hp⟩ : ∃ p, P[i]? = some p := ⟨_, List.getElem?_eq_getElem (by rw [HL.out]; exact hlt)⟩
      have hpr : p.r = shR [107] 7 sz q (i / 10) (i % 10) ∧ p.cart = ((i % 10 : Nat) : Int) ∧ p.pos = ((5 + i / 10 : Nat) : Int) := by
        have h := congrArg (fun l => l[i]?) HP.out
        simp only [List.getElem?_map, hp, List.getElem?_range hlt, Option.map_some] at h
        have h2 := Option.some.inj h
        exact ⟨congrArg FoundP.r h2, congrArg FoundP.cart h2, congrArg FoundP.pos h2⟩
      obtain ⟨j, hj⟩ : ∃ j, i / 10 = j := ⟨_, rfl⟩
      obtain ⟨t, ht⟩ : ∃ t, i % 10 = t := ⟨_, rfl⟩
      rw [hj, ht] at hpr
      have HJ := Lib.hid hj
      have HT := Lib.hid ht
      have hj4 : j < q := by omega
      have ht10 : t < 10 := by omega
      clear hj ht
      have hrow := fun t u hu => own_cell OW.out (j := i * 12 + t) (u := u) hu
      have x2 : wo.cell? ⟨gP, i * 12 + 2, none⟩ = some (.int .i64 2) := keepc BW.out hgP1 (hrow 2 _ (by rw [foundVals_get hp (by omega)]; unfold foundCells; rw [hpr.1]; rfl))
      have x3 : wo.cell? ⟨gP, i * 12 + 3, none⟩ = some (.int .i64 0) := keepc BW.out hgP1 (hrow 3 _ (by rw [foundVals_get hp (by omega)]; unfold foundCells; rw [hpr.1]; rfl))
      have x4 : wo.cell? ⟨gP, i * 12 + 4, none⟩ = some (strV [107]) := keepc BW.out hgP1 (hrow 4 _ (by rw [foundVals_get hp (by omega)]; unfold foundCells; rw [hpr.1]; rfl))
      have x5 : wo.cell? ⟨gP, i * 12 + 5, none⟩ = some (.int .i64 7) := keepc BW.out hgP1 (hrow 5 _ (by rw [foundVals_get hp (by omega)]; unfold foundCells; rw [hpr.1]; rfl))
      have x6 : wo.cell? ⟨gP, i * 12 + 6, none⟩ = some (.int .i64 (j : Int)) := keepc BW.out hgP1 (hrow 6 _ (by rw [foundVals_get hp (by omega)]; unfold foundCells; rw [hpr.1]; rfl))
      have x7 : wo.cell? ⟨gP, i * 12 + 7, none⟩ = some (.int .i64 (q : Int)) := keepc BW.out hgP1 (hrow 7 _ (by rw [foundVals_get hp (by omega)]; unfold foundCells; rw [hpr.1]; rfl))
      have x8 : wo.cell? ⟨gP, i * 12 + 8, none⟩ = some (.int .i64 (t : Int)) := keepc BW.out hgP1 (hrow 8 _ (by rw [foundVals_get hp (by omega)]; unfold foundCells; rw [hpr.1]; rfl))
      have x9 : wo.cell? ⟨gP, i * 12 + 9, none⟩ = some (.int .i64 (sz : Int)) := keepc BW.out hgP1 (hrow 9 _ (by rw [foundVals_get hp (by omega)]; unfold foundCells; rw [hpr.1]; rfl))
      have x10 : wo.cell? ⟨gP, i * 12 + 10, none⟩ = some (strV (digV sz)) := keepc BW.out hgP1 (hrow 10 _ (by rw [foundVals_get hp (by omega)]; unfold foundCells; rw [hpr.1]; rfl))
      have x11 : wo.cell? ⟨gP, i * 12 + 11, none⟩ = some (.slice p.A 16 p.c) := keepc BW.out hgP1 (hrow 11 _ (by rw [foundVals_get hp (by omega)]; unfold foundCells; rw [hpr.1]; rfl))
      have HPI := Lib.hid hp
      have HPR := Lib.hid hpr
      clear hp hpr hrow
      go_upto_region 9 with fail
      obtain ⟨w8, hw8⟩ : ∃ z, wo.alloc (.cells #[.int .i64 2, .int .i64 0, strV [107], .int .i64 7, .int .i64 (j : Int), .int .i64 (q : Int), .int .i64 (t : Int), .int .i64 (sz : Int), strV (digV sz), .slice p.A 16 p.c] 37) = z := ⟨_, rfl⟩
      have X8 := Lib.hid (show Blk w8 wo.heap.size 37 #[.int .i64 2, .int .i64 0, strV [107], .int .i64 7, .int .i64 (j : Int), .int .i64 (q : Int), .int .i64 (t : Int), .int .i64 (sz : Int), strV (digV sz), .slice p.A 16 p.c] by rw [← hw8]; exact Blk.made _ _ _)
      have B8 := Lib.hid (show Below wo.heap.size wo w8 by rw [← hw8]; exact (Below.refl _ wo).alloc (Nat.le_refl _) _)
      rw [hw8]
      clear hw8
      have y4 : w8.cell? ⟨wo.heap.size, 4, none⟩ = some (.int .i64 (j : Int)) := X8.out.cell 4
      have y6 : w8.cell? ⟨wo.heap.size, 6, none⟩ = some (.int .i64 (t : Int)) := X8.out.cell 6
      clear x2 x3 x4 x5 x6 x7 x8 x9 x10 x11
      go_cut [51] from 34 to 77 (fun bv wx => bv = .bool (!keep i) ∧ Below w8.heap.size w8 wx)
      case first =>
        by_cases hin : j < n
        · have e1 : decide (j < n) = true := decide_eq_true hin
          have e2 : decide ((j : Int) < (n : Int)) = true := decide_eq_true (by omega)
          have e3 : (j : Int) < (n : Int) := by omega
          have e4 : (0 : Int) ≤ (j : Int) := by omega
          have e5 : (0 : Int) ≤ (t : Int) := by omega
          obtain ⟨x, hx⟩ : ∃ x, ls[j]? = some x := ⟨_, List.getElem?_eq_getElem (by rw [HLS.out]; exact hin)⟩
          have HX := Lib.hid hx
          obtain ⟨b, off, hBe, hbw, hbc⟩ : ∃ b off, B = some ⟨b, off, none⟩ ∧ b < w.heap.size ∧ ∀ (i x : Nat), ls[i]? = some x → w.cell? ⟨b, off + i, none⟩ = some (.int .u16 (x : Int)) := (by rcases HB.out with h | h; omega; exact h)
          subst hBe
          have z0 : w8.cell? ⟨b, off + j, none⟩ = some (.int .u16 (x : Int)) := keepc B8.out (by omega) (keepc BW.out (by omega) (keepc B1.out hbw (hbc j x hx)))
          clear hx hbc
          have KX := Lib.hid (show (!keep i) = lackB x t by rw [← HK.out]; unfold keepF; rw [HJ.out, HT.out, HX.out, HLS.out, e1]; simp)
          cases hbv : lackB x t with
          | true =>
            have hbt : (bits .and .u16 ((x : Int) / 2 ^ min (IntKind.u64.wrap (t : Int)).toNat 16) 1 == 1) = true := hbv
            refine wp_region_held_drew (S := (fun w' => w'.cell? ⟨wo.heap.size, 4, none⟩ = some (.int .i64 (j : Int)) ∧ w'.cell? ⟨wo.heap.size, 6, none⟩ = some (.int .i64 (t : Int)) ∧ w'.cell? ⟨b, off + j, none⟩ = some (.int .u16 (x : Int)))) (by kernel_rfl) ⟨y4, y6, z0⟩ (fun hHeld => ?_)
            refine wpAnyH_take (i := 0) (v := ?vQ9n10) (take_list rfl) (by kernel_rfl) (by kernel_rfl) (by kernel_rfl) (fun _ _ _ h => h) (Or.inl ⟨by rfl, ?hyQ9n10⟩) (by assumption) ?restQ9n10
            case hyQ9n10 => (intro w hSw; (try dsimp only at hSw); go_simp <;> with_reducible rfl)
            try simp only [Act.put, List.setIfInBounds_toArray, List.set_cons_zero, List.set_cons_succ]
            refine wpAnyH_take (i := 1) (v := ?vQ9n11) (take_list rfl) (by kernel_rfl) (by kernel_rfl) (by kernel_rfl) (fun _ _ _ h => h) (Or.inl ⟨by rfl, ?hyQ9n11⟩) (by assumption) ?restQ9n11
            case hyQ9n11 => (intro w hSw; (try dsimp only at hSw); go_simp <;> with_reducible rfl)
            try simp only [Act.put, List.setIfInBounds_toArray, List.set_cons_zero, List.set_cons_succ]
            refine wpAnyH_take (i := 2) (v := ?vQ9n12) (take_list rfl) (by kernel_rfl) (by kernel_rfl) (by kernel_rfl) (fun _ _ _ h => h) (Or.inl ⟨by rfl, ?hyQ9n12⟩) (by assumption) ?restQ9n12
            case hyQ9n12 => (intro w hSw; (try dsimp only at hSw); go_simp <;> with_reducible rfl)
            try simp only [Act.put, List.setIfInBounds_toArray, List.set_cons_zero, List.set_cons_succ]
            refine wpAnyH_take (i := 3) (v := ?vQ9n13) (take_list rfl) (by kernel_rfl) (by kernel_rfl) (by kernel_rfl) (fun _ _ _ h => h) (Or.inl ⟨by rfl, ?hyQ9n13⟩) (by assumption) ?restQ9n13
            case hyQ9n13 => (intro w hSw; (try dsimp only at hSw); go_simp <;> with_reducible rfl)
            try simp only [Act.put, List.setIfInBounds_toArray, List.set_cons_zero, List.set_cons_succ]
            refine wpAnyH_take (i := 4) (v := ?vQ9n14) (take_list rfl) (by kernel_rfl) (by kernel_rfl) (by kernel_rfl) (fun _ _ _ h => h) (Or.inl ⟨by rfl, ?hyQ9n14⟩) (by assumption) ?restQ9n14
            case hyQ9n14 => (intro w hSw; (try dsimp only at hSw); go_simp <;> with_reducible rfl)
            try simp only [Act.put, List.setIfInBounds_toArray, List.set_cons_zero, List.set_cons_succ]
            refine wpAnyH_take (i := 5) (v := ?vQ9n15) (take_list rfl) (by kernel_rfl) (by kernel_rfl) (by kernel_rfl) (fun _ _ _ h => h) (Or.inl ⟨by rfl, ?hyQ9n15⟩) (by assumption) ?restQ9n15
            case hyQ9n15 => (intro w hSw; (try dsimp only at hSw); go_simp <;> with_reducible rfl)
            try simp only [Act.put, List.setIfInBounds_toArray, List.set_cons_zero, List.set_cons_succ]
            refine wpAnyH_take (i := 6) (v := ?vQ9n16) (take_list rfl) (by kernel_rfl) (by kernel_rfl) (by kernel_rfl) (fun _ _ _ h => h) (Or.inl ⟨by rfl, ?hyQ9n16⟩) (by assumption) ?restQ9n16
            case hyQ9n16 => (intro w hSw; (try dsimp only at hSw); go_simp <;> with_reducible rfl)
            try simp only [Act.put, List.setIfInBounds_toArray, List.set_cons_zero, List.set_cons_succ]
            refine wpAnyH_take (i := 7) (v := ?vQ9n17) (take_list rfl) (by kernel_rfl) (by kernel_rfl) (by kernel_rfl) (fun _ _ _ h => h) (Or.inl ⟨by rfl, ?hyQ9n17⟩) (by assumption) ?restQ9n17
            case hyQ9n17 => (intro w hSw; (try dsimp only at hSw); go_simp <;> with_reducible rfl)
            try simp only [Act.put, List.setIfInBounds_toArray, List.set_cons_zero, List.set_cons_succ]
            refine wpAnyH_take (i := 8) (v := ?vQ9n18) (take_list rfl) (by kernel_rfl) (by kernel_rfl) (by kernel_rfl) (fun _ _ _ h => h) (Or.inl ⟨by rfl, ?hyQ9n18⟩) (by assumption) ?restQ9n18
            case hyQ9n18 => (intro w hSw; (try dsimp only at hSw); go_simp <;> with_reducible rfl)
            try simp only [Act.put, List.setIfInBounds_toArray, List.set_cons_zero, List.set_cons_succ]
            refine wpAnyH_take (i := 9) (v := ?vQ9n19) (take_list rfl) (by kernel_rfl) (by kernel_rfl) (by kernel_rfl) (fun _ _ _ h => h) (Or.inl ⟨by rfl, ?hyQ9n19⟩) (by assumption) ?restQ9n19
            case hyQ9n19 => (intro w hSw; (try dsimp only at hSw); go_simp <;> with_reducible rfl)
            try simp only [Act.put, List.setIfInBounds_toArray, List.set_cons_zero, List.set_cons_succ]
            refine wpAnyH_take (i := 10) (v := ?vQ9n110) (take_list rfl) (by kernel_rfl) (by kernel_rfl) (by kernel_rfl) (fun _ _ _ h => h) (Or.inl ⟨by rfl, ?hyQ9n110⟩) (by assumption) ?restQ9n110
            case hyQ9n110 => (intro w hSw; (try dsimp only at hSw); go_simp <;> with_reducible rfl)
            try simp only [Act.put, List.setIfInBounds_toArray, List.set_cons_zero, List.set_cons_succ]
            refine wpAnyH_take (i := 11) (v := ?vQ9n111) (take_list rfl) (by kernel_rfl) (by kernel_rfl) (by kernel_rfl) (fun _ _ _ h => h) (Or.inl ⟨by rfl, ?hyQ9n111⟩) (by assumption) ?restQ9n111
            case hyQ9n111 => (intro w hSw; (try dsimp only at hSw); go_simp <;> with_reducible rfl)
            try simp only [Act.put, List.setIfInBounds_toArray, List.set_cons_zero, List.set_cons_succ]
            refine wpAnyH_take (i := 12) (v := ?vQ9n112) (take_list rfl) (by kernel_rfl) (by kernel_rfl) (by kernel_rfl) (fun _ _ _ h => h) (Or.inl ⟨by rfl, ?hyQ9n112⟩) (by assumption) ?restQ9n112
            case hyQ9n112 => (intro w hSw; (try dsimp only at hSw); go_simp <;> with_reducible rfl)
            try simp only [Act.put, List.setIfInBounds_toArray, List.set_cons_zero, List.set_cons_succ]
            refine wpAnyH_take (i := 13) (v := ?vQ9n113) (take_list rfl) (by kernel_rfl) (by kernel_rfl) (by kernel_rfl) (fun _ _ _ h => h) (Or.inl ⟨by rfl, ?hyQ9n113⟩) (by assumption) ?restQ9n113
            case hyQ9n113 => (intro w hSw; (try dsimp only at hSw); go_simp <;> with_reducible rfl)
            try simp only [Act.put, List.setIfInBounds_toArray, List.set_cons_zero, List.set_cons_succ]
            refine wpAnyH_take (i := 14) (v := ?vQ9n114) (take_list rfl) (by kernel_rfl) (by kernel_rfl) (by kernel_rfl) (fun _ _ _ h => h) (Or.inl ⟨by rfl, ?hyQ9n114⟩) (by assumption) ?restQ9n114
            case hyQ9n114 => (intro w hSw; (try dsimp only at hSw); go_simp <;> with_reducible rfl)
            try simp only [Act.put, List.setIfInBounds_toArray, List.set_cons_zero, List.set_cons_succ]
            refine wpAnyH_take (i := 15) (v := ?vQ9n115) (take_list rfl) (by kernel_rfl) (by kernel_rfl) (by kernel_rfl) (fun _ _ _ h => h) (Or.inl ⟨by rfl, ?hyQ9n115⟩) (by assumption) ?restQ9n115
            case hyQ9n115 => (intro w hSw; (try dsimp only at hSw); go_simp <;> with_reducible rfl)
            try simp only [Act.put, List.setIfInBounds_toArray, List.set_cons_zero, List.set_cons_succ]
            refine wpAnyH_take (i := 16) (v := ?vQ9n116) (take_list rfl) (by kernel_rfl) (by kernel_rfl) (by kernel_rfl) (fun _ _ _ h => h) (Or.inl ⟨by rfl, ?hyQ9n116⟩) (by assumption) ?restQ9n116
            case hyQ9n116 => (intro w hSw; (try dsimp only at hSw); go_simp <;> with_reducible rfl)
            try simp only [Act.put, List.setIfInBounds_toArray, List.set_cons_zero, List.set_cons_succ]
            refine wpAnyH_take (i := 17) (v := ?vQ9n117) (take_list rfl) (by kernel_rfl) (by kernel_rfl) (by kernel_rfl) (fun _ _ _ h => h) (Or.inl ⟨by rfl, ?hyQ9n117⟩) (by assumption) ?restQ9n117
            case hyQ9n117 => (intro w hSw; (try dsimp only at hSw); go_simp <;> with_reducible rfl)
            try simp only [Act.put, List.setIfInBounds_toArray, List.set_cons_zero, List.set_cons_succ]
            refine wpAnyH_done (by kernel_rfl) ?_ _
            go_wp2_with fail
            go_meet
            first | exact ⟨by rw [KX.out, hbv], below_drewed _ _⟩ | ((repeat apply Exists.intro); exact ⟨⟨by rw [KX.out, hbv], below_drewed _ _⟩, rfl⟩)
          | false =>
            have hbt : (bits .and .u16 ((x : Int) / 2 ^ min (IntKind.u64.wrap (t : Int)).toNat 16) 1 == 1) = false := hbv
            refine wp_region_held_drew (S := (fun w' => w'.cell? ⟨wo.heap.size, 4, none⟩ = some (.int .i64 (j : Int)) ∧ w'.cell? ⟨wo.heap.size, 6, none⟩ = some (.int .i64 (t : Int)) ∧ w'.cell? ⟨b, off + j, none⟩ = some (.int .u16 (x : Int)))) (by kernel_rfl) ⟨y4, y6, z0⟩ (fun hHeld => ?_)
            refine wpAnyH_take (i := 0) (v := ?vQ9n20) (take_list rfl) (by kernel_rfl) (by kernel_rfl) (by kernel_rfl) (fun _ _ _ h => h) (Or.inl ⟨by rfl, ?hyQ9n20⟩) (by assumption) ?restQ9n20
            case hyQ9n20 => (intro w hSw; (try dsimp only at hSw); go_simp <;> with_reducible rfl)
            try simp only [Act.put, List.setIfInBounds_toArray, List.set_cons_zero, List.set_cons_succ]
            refine wpAnyH_take (i := 1) (v := ?vQ9n21) (take_list rfl) (by kernel_rfl) (by kernel_rfl) (by kernel_rfl) (fun _ _ _ h => h) (Or.inl ⟨by rfl, ?hyQ9n21⟩) (by assumption) ?restQ9n21
            case hyQ9n21 => (intro w hSw; (try dsimp only at hSw); go_simp <;> with_reducible rfl)
            try simp only [Act.put, List.setIfInBounds_toArray, List.set_cons_zero, List.set_cons_succ]
            refine wpAnyH_take (i := 2) (v := ?vQ9n22) (take_list rfl) (by kernel_rfl) (by kernel_rfl) (by kernel_rfl) (fun _ _ _ h => h) (Or.inl ⟨by rfl, ?hyQ9n22⟩) (by assumption) ?restQ9n22
            case hyQ9n22 => (intro w hSw; (try dsimp only at hSw); go_simp <;> with_reducible rfl)
            try simp only [Act.put, List.setIfInBounds_toArray, List.set_cons_zero, List.set_cons_succ]
            refine wpAnyH_take (i := 3) (v := ?vQ9n23) (take_list rfl) (by kernel_rfl) (by kernel_rfl) (by kernel_rfl) (fun _ _ _ h => h) (Or.inl ⟨by rfl, ?hyQ9n23⟩) (by assumption) ?restQ9n23
            case hyQ9n23 => (intro w hSw; (try dsimp only at hSw); go_simp <;> with_reducible rfl)
            try simp only [Act.put, List.setIfInBounds_toArray, List.set_cons_zero, List.set_cons_succ]
            refine wpAnyH_take (i := 4) (v := ?vQ9n24) (take_list rfl) (by kernel_rfl) (by kernel_rfl) (by kernel_rfl) (fun _ _ _ h => h) (Or.inl ⟨by rfl, ?hyQ9n24⟩) (by assumption) ?restQ9n24
            case hyQ9n24 => (intro w hSw; (try dsimp only at hSw); go_simp <;> with_reducible rfl)
            try simp only [Act.put, List.setIfInBounds_toArray, List.set_cons_zero, List.set_cons_succ]
            refine wpAnyH_take (i := 5) (v := ?vQ9n25) (take_list rfl) (by kernel_rfl) (by kernel_rfl) (by kernel_rfl) (fun _ _ _ h => h) (Or.inl ⟨by rfl, ?hyQ9n25⟩) (by assumption) ?restQ9n25
            case hyQ9n25 => (intro w hSw; (try dsimp only at hSw); go_simp <;> with_reducible rfl)
            try simp only [Act.put, List.setIfInBounds_toArray, List.set_cons_zero, List.set_cons_succ]
            refine wpAnyH_take (i := 6) (v := ?vQ9n26) (take_list rfl) (by kernel_rfl) (by kernel_rfl) (by kernel_rfl) (fun _ _ _ h => h) (Or.inl ⟨by rfl, ?hyQ9n26⟩) (by assumption) ?restQ9n26
            case hyQ9n26 => (intro w hSw; (try dsimp only at hSw); go_simp <;> with_reducible rfl)
            try simp only [Act.put, List.setIfInBounds_toArray, List.set_cons_zero, List.set_cons_succ]
            refine wpAnyH_take (i := 7) (v := ?vQ9n27) (take_list rfl) (by kernel_rfl) (by kernel_rfl) (by kernel_rfl) (fun _ _ _ h => h) (Or.inl ⟨by rfl, ?hyQ9n27⟩) (by assumption) ?restQ9n27
            case hyQ9n27 => (intro w hSw; (try dsimp only at hSw); go_simp <;> with_reducible rfl)
            try simp only [Act.put, List.setIfInBounds_toArray, List.set_cons_zero, List.set_cons_succ]
            refine wpAnyH_take (i := 8) (v := ?vQ9n28) (take_list rfl) (by kernel_rfl) (by kernel_rfl) (by kernel_rfl) (fun _ _ _ h => h) (Or.inl ⟨by rfl, ?hyQ9n28⟩) (by assumption) ?restQ9n28
            case hyQ9n28 => (intro w hSw; (try dsimp only at hSw); go_simp <;> with_reducible rfl)
            try simp only [Act.put, List.setIfInBounds_toArray, List.set_cons_zero, List.set_cons_succ]
            refine wpAnyH_take (i := 9) (v := ?vQ9n29) (take_list rfl) (by kernel_rfl) (by kernel_rfl) (by kernel_rfl) (fun _ _ _ h => h) (Or.inl ⟨by rfl, ?hyQ9n29⟩) (by assumption) ?restQ9n29
            case hyQ9n29 => (intro w hSw; (try dsimp only at hSw); go_simp <;> with_reducible rfl)
            try simp only [Act.put, List.setIfInBounds_toArray, List.set_cons_zero, List.set_cons_succ]
            refine wpAnyH_take (i := 10) (v := ?vQ9n210) (take_list rfl) (by kernel_rfl) (by kernel_rfl) (by kernel_rfl) (fun _ _ _ h => h) (Or.inl ⟨by rfl, ?hyQ9n210⟩) (by assumption) ?restQ9n210
            case hyQ9n210 => (intro w hSw; (try dsimp only at hSw); go_simp <;> with_reducible rfl)
            try simp only [Act.put, List.setIfInBounds_toArray, List.set_cons_zero, List.set_cons_succ]
            refine wpAnyH_take (i := 11) (v := ?vQ9n211) (take_list rfl) (by kernel_rfl) (by kernel_rfl) (by kernel_rfl) (fun _ _ _ h => h) (Or.inl ⟨by rfl, ?hyQ9n211⟩) (by assumption) ?restQ9n211
            case hyQ9n211 => (intro w hSw; (try dsimp only at hSw); go_simp <;> with_reducible rfl)
            try simp only [Act.put, List.setIfInBounds_toArray, List.set_cons_zero, List.set_cons_succ]
            refine wpAnyH_take (i := 12) (v := ?vQ9n212) (take_list rfl) (by kernel_rfl) (by kernel_rfl) (by kernel_rfl) (fun _ _ _ h => h) (Or.inl ⟨by rfl, ?hyQ9n212⟩) (by assumption) ?restQ9n212
            case hyQ9n212 => (intro w hSw; (try dsimp only at hSw); go_simp <;> with_reducible rfl)
            try simp only [Act.put, List.setIfInBounds_toArray, List.set_cons_zero, List.set_cons_succ]
            refine wpAnyH_take (i := 13) (v := ?vQ9n213) (take_list rfl) (by kernel_rfl) (by kernel_rfl) (by kernel_rfl) (fun _ _ _ h => h) (Or.inl ⟨by rfl, ?hyQ9n213⟩) (by assumption) ?restQ9n213
            case hyQ9n213 => (intro w hSw; (try dsimp only at hSw); go_simp <;> with_reducible rfl)
            try simp only [Act.put, List.setIfInBounds_toArray, List.set_cons_zero, List.set_cons_succ]
            refine wpAnyH_take (i := 14) (v := ?vQ9n214) (take_list rfl) (by kernel_rfl) (by kernel_rfl) (by kernel_rfl) (fun _ _ _ h => h) (Or.inl ⟨by rfl, ?hyQ9n214⟩) (by assumption) ?restQ9n214
            case hyQ9n214 => (intro w hSw; (try dsimp only at hSw); go_simp <;> with_reducible rfl)
            try simp only [Act.put, List.setIfInBounds_toArray, List.set_cons_zero, List.set_cons_succ]
            refine wpAnyH_take (i := 15) (v := ?vQ9n215) (take_list rfl) (by kernel_rfl) (by kernel_rfl) (by kernel_rfl) (fun _ _ _ h => h) (Or.inl ⟨by rfl, ?hyQ9n215⟩) (by assumption) ?restQ9n215
            case hyQ9n215 => (intro w hSw; (try dsimp only at hSw); go_simp <;> with_reducible rfl)
            try simp only [Act.put, List.setIfInBounds_toArray, List.set_cons_zero, List.set_cons_succ]
            refine wpAnyH_take (i := 16) (v := ?vQ9n216) (take_list rfl) (by kernel_rfl) (by kernel_rfl) (by kernel_rfl) (fun _ _ _ h => h) (Or.inl ⟨by rfl, ?hyQ9n216⟩) (by assumption) ?restQ9n216
            case hyQ9n216 => (intro w hSw; (try dsimp only at hSw); go_simp <;> with_reducible rfl)
            try simp only [Act.put, List.setIfInBounds_toArray, List.set_cons_zero, List.set_cons_succ]
            refine wpAnyH_take (i := 17) (v := ?vQ9n217) (take_list rfl) (by kernel_rfl) (by kernel_rfl) (by kernel_rfl) (fun _ _ _ h => h) (Or.inl ⟨by rfl, ?hyQ9n217⟩) (by assumption) ?restQ9n217
            case hyQ9n217 => (intro w hSw; (try dsimp only at hSw); go_simp <;> with_reducible rfl)
            try simp only [Act.put, List.setIfInBounds_toArray, List.set_cons_zero, List.set_cons_succ]
            refine wpAnyH_done (by kernel_rfl) ?_ _
            go_wp2_with fail
            go_meet
            first | exact ⟨by rw [KX.out, hbv], below_drewed _ _⟩ | ((repeat apply Exists.intro); exact ⟨⟨by rw [KX.out, hbv], below_drewed _ _⟩, rfl⟩)
        · have e1 : decide (j < n) = false := decide_eq_false hin
          have e2 : decide ((j : Int) < (n : Int)) = false := decide_eq_false (by omega)
          have e3 : ¬ (j : Int) < (n : Int) := by omega
          have KX := Lib.hid (show (!keep i) = false by rw [← HK.out]; unfold keepF; rw [HJ.out, HT.out, HLS.out, e1]; simp)
          skip
          refine wp_region_held_drew (S := (fun w' => w'.cell? ⟨wo.heap.size, 4, none⟩ = some (.int .i64 (j : Int)))) (by kernel_rfl) y4 (fun hHeld => ?_)
          refine wpAnyH_take (i := 0) (v := ?vQ9n30) (take_list rfl) (by kernel_rfl) (by kernel_rfl) (by kernel_rfl) (fun _ _ _ h => h) (Or.inl ⟨by rfl, ?hyQ9n30⟩) (by assumption) ?restQ9n30
          case hyQ9n30 => (intro w hSw; (try dsimp only at hSw); go_simp <;> with_reducible rfl)
          try simp only [Act.put, List.setIfInBounds_toArray, List.set_cons_zero, List.set_cons_succ]
          refine wpAnyH_take (i := 1) (v := ?vQ9n31) (take_list rfl) (by kernel_rfl) (by kernel_rfl) (by kernel_rfl) (fun _ _ _ h => h) (Or.inl ⟨by rfl, ?hyQ9n31⟩) (by assumption) ?restQ9n31
          case hyQ9n31 => (intro w hSw; (try dsimp only at hSw); go_simp <;> with_reducible rfl)
          try simp only [Act.put, List.setIfInBounds_toArray, List.set_cons_zero, List.set_cons_succ]
          refine wpAnyH_take (i := 2) (v := ?vQ9n32) (take_list rfl) (by kernel_rfl) (by kernel_rfl) (by kernel_rfl) (fun _ _ _ h => h) (Or.inl ⟨by rfl, ?hyQ9n32⟩) (by assumption) ?restQ9n32
          case hyQ9n32 => (intro w hSw; (try dsimp only at hSw); go_simp <;> with_reducible rfl)
          try simp only [Act.put, List.setIfInBounds_toArray, List.set_cons_zero, List.set_cons_succ]
          refine wpAnyH_take (i := 3) (v := ?vQ9n33) (take_list rfl) (by kernel_rfl) (by kernel_rfl) (by kernel_rfl) (fun _ _ _ h => h) (Or.inl ⟨by rfl, ?hyQ9n33⟩) (by assumption) ?restQ9n33
          case hyQ9n33 => (intro w hSw; (try dsimp only at hSw); go_simp <;> with_reducible rfl)
          try simp only [Act.put, List.setIfInBounds_toArray, List.set_cons_zero, List.set_cons_succ]
          refine wpAnyH_take (i := 4) (v := ?vQ9n34) (take_list rfl) (by kernel_rfl) (by kernel_rfl) (by kernel_rfl) (fun _ _ _ h => h) (Or.inl ⟨by rfl, ?hyQ9n34⟩) (by assumption) ?restQ9n34
          case hyQ9n34 => (intro w hSw; (try dsimp only at hSw); go_simp <;> with_reducible rfl)
          try simp only [Act.put, List.setIfInBounds_toArray, List.set_cons_zero, List.set_cons_succ]
          refine wpAnyH_take (i := 5) (v := ?vQ9n35) (take_list rfl) (by kernel_rfl) (by kernel_rfl) (by kernel_rfl) (fun _ _ _ h => h) (Or.inl ⟨by rfl, ?hyQ9n35⟩) (by assumption) ?restQ9n35
          case hyQ9n35 => (intro w hSw; (try dsimp only at hSw); go_simp <;> with_reducible rfl)
          try simp only [Act.put, List.setIfInBounds_toArray, List.set_cons_zero, List.set_cons_succ]
          refine wpAnyH_take (i := 6) (v := undef) (take_list rfl) (by kernel_rfl) (by kernel_rfl) (by kernel_rfl) (fun _ _ _ h => h) (Or.inr ⟨by rfl, rfl⟩) (by assumption) ?_
          try simp only [Act.put, List.setIfInBounds_toArray, List.set_cons_zero, List.set_cons_succ]
          refine wpAnyH_take (i := 7) (v := undef) (take_list rfl) (by kernel_rfl) (by kernel_rfl) (by kernel_rfl) (fun _ _ _ h => h) (Or.inr ⟨by rfl, rfl⟩) (by assumption) ?_
          try simp only [Act.put, List.setIfInBounds_toArray, List.set_cons_zero, List.set_cons_succ]
          refine wpAnyH_take (i := 8) (v := undef) (take_list rfl) (by kernel_rfl) (by kernel_rfl) (by kernel_rfl) (fun _ _ _ h => h) (Or.inr ⟨by rfl, rfl⟩) (by assumption) ?_
          try simp only [Act.put, List.setIfInBounds_toArray, List.set_cons_zero, List.set_cons_succ]
          refine wpAnyH_take (i := 9) (v := undef) (take_list rfl) (by kernel_rfl) (by kernel_rfl) (by kernel_rfl) (fun _ _ _ h => h) (Or.inr ⟨by rfl, rfl⟩) (by assumption) ?_
          try simp only [Act.put, List.setIfInBounds_toArray, List.set_cons_zero, List.set_cons_succ]
          refine wpAnyH_take (i := 10) (v := undef) (take_list rfl) (by kernel_rfl) (by kernel_rfl) (by kernel_rfl) (fun _ _ _ h => h) (Or.inr ⟨by rfl, rfl⟩) (by assumption) ?_
          try simp only [Act.put, List.setIfInBounds_toArray, List.set_cons_zero, List.set_cons_succ]
          refine wpAnyH_take (i := 11) (v := undef) (take_list rfl) (by kernel_rfl) (by kernel_rfl) (by kernel_rfl) (fun _ _ _ h => h) (Or.inr ⟨by rfl, rfl⟩) (by assumption) ?_
          try simp only [Act.put, List.setIfInBounds_toArray, List.set_cons_zero, List.set_cons_succ]
          refine wpAnyH_take (i := 12) (v := undef) (take_list rfl) (by kernel_rfl) (by kernel_rfl) (by kernel_rfl) (fun _ _ _ h => h) (Or.inr ⟨by rfl, rfl⟩) (by assumption) ?_
          try simp only [Act.put, List.setIfInBounds_toArray, List.set_cons_zero, List.set_cons_succ]
          refine wpAnyH_take (i := 13) (v := undef) (take_list rfl) (by kernel_rfl) (by kernel_rfl) (by kernel_rfl) (fun _ _ _ h => h) (Or.inr ⟨by rfl, rfl⟩) (by assumption) ?_
          try simp only [Act.put, List.setIfInBounds_toArray, List.set_cons_zero, List.set_cons_succ]
          refine wpAnyH_take (i := 14) (v := undef) (take_list rfl) (by kernel_rfl) (by kernel_rfl) (by kernel_rfl) (fun _ _ _ h => h) (Or.inr ⟨by rfl, rfl⟩) (by assumption) ?_
          try simp only [Act.put, List.setIfInBounds_toArray, List.set_cons_zero, List.set_cons_succ]
          refine wpAnyH_take (i := 15) (v := undef) (take_list rfl) (by kernel_rfl) (by kernel_rfl) (by kernel_rfl) (fun _ _ _ h => h) (Or.inr ⟨by rfl, rfl⟩) (by assumption) ?_
          try simp only [Act.put, List.setIfInBounds_toArray, List.set_cons_zero, List.set_cons_succ]
          refine wpAnyH_take (i := 16) (v := undef) (take_list rfl) (by kernel_rfl) (by kernel_rfl) (by kernel_rfl) (fun _ _ _ h => h) (Or.inr ⟨by rfl, rfl⟩) (by assumption) ?_
          try simp only [Act.put, List.setIfInBounds_toArray, List.set_cons_zero, List.set_cons_succ]
          refine wpAnyH_take (i := 17) (v := ?vQ9n317) (take_list rfl) (by kernel_rfl) (by kernel_rfl) (by kernel_rfl) (fun _ _ _ h => h) (Or.inl ⟨by rfl, ?hyQ9n317⟩) (by assumption) ?restQ9n317
          case hyQ9n317 => (intro w hSw; (try dsimp only at hSw); go_simp <;> with_reducible rfl)
          try simp only [Act.put, List.setIfInBounds_toArray, List.set_cons_zero, List.set_cons_succ]
          refine wpAnyH_done (by kernel_rfl) ?_ _
          go_wp2_with fail
          go_meet
          first | exact ⟨by rw [KX.out], below_drewed _ _⟩ | ((repeat apply Exists.intro); exact ⟨⟨by rw [KX.out], below_drewed _ _⟩, rfl⟩)
      case rest =>
        obtain ⟨rfl, hbl8⟩ := hcut
        have BC := Lib.hid (show Below wo.heap.size wo wc from B8.out.trans (hbl8.mono B8.out.size))
        have hj44 : j < 4 := by omega
        have y4c : wc.cell? ⟨wo.heap.size, 4, none⟩ = some (.int .i64 (j : Int)) := keepc hbl8 X8.out.size y4
        have hzc : wo.heap.size ≤ wc.heap.size := BC.out.size
        have BLc := Lib.hid (BL.out.below BC.out (by omega))
        have BWc := Lib.hid (BW.out.trans (BC.out.mono (by omega)))
        have RWc := Lib.hid (own_of_eq RW.out (fun g1 hg1 => BC.out.block g1 (RW.out.lt g1 hg1).2))
        clear y4 y6 hbl8 X8 B8
        cases hk : keep i with
        | false =>
          have KI := Lib.hid hk
          have SI := Lib.hid (show (List.range (i + 1)).filter keep = (List.range i).filter keep by rw [List.range_succ, List.filter_append]; simp [hk])
          have hlc : j * 1 < 4 := by omega
          have k0c : wc.cell? ⟨w1.heap.size + 1, j, none⟩ = some (.int .i64 (lostN keep i j : Int)) := (BLc.out.cell j).trans (lost_get keep i hj44)
          have g0c : wc.frozen? ⟨w1.heap.size + 1, j, none⟩ = false := BLc.out.free j
          have hl40 : lostN keep i j ≤ 40 := by unfold lostN; have h := List.countP_le_length (p := fun s => decide (s / 10 = j) && !keep s) (l := List.range i); rw [List.length_range] at h; omega
          obtain ⟨lo, hlo⟩ : ∃ z, lostN keep i j = z := ⟨_, rfl⟩
          have HLO := Lib.hid hlo
          rw [hlo] at k0c hl40
          clear hlo
          have p8 : IntKind.i64.wrap ((lo : Int) + 1) = (lo : Int) + 1 := IntWalk.i64_in _ (by omega)
          have p9 : IntKind.i64.wrap ((i : Int) + 1) = ((i + 1 : Nat) : Int) := by rw [IntWalk.i64_in _ (by omega)]; omega
          have j4 : (j : Int) < 4 := by omega
          have j0 : (0 : Int) ≤ (j : Int) := by omega
          go_upto_region 11 with fail
          obtain ⟨wd, hwd⟩ : ∃ z, wc.setCell ⟨w1.heap.size + 1, j, none⟩ (.int .i64 ((lo : Int) + 1)) = z := ⟨_, rfl⟩
          have BLd := Lib.hid (show Blk wd (w1.heap.size + 1) 3 (lostVs keep (i + 1)) by rw [← hwd, ← lost_put hj44 HJ.out KI.out, HLO.out]; exact BLc.out.store j _)
          have CHd := Lib.hid (show Chg (fun k => k = w1.heap.size + 1) wc wd by rw [← hwd]; exact (Chg.refl (fun k => k = w1.heap.size + 1) wc).store (p := ⟨w1.heap.size + 1, j, none⟩) (.inl rfl) _)
          have kd : wd.cell? ⟨w1.heap.size + 1, j, none⟩ = some (.int .i64 ((lo : Int) + 1)) := (BLd.out.cell j).trans (by rw [lost_get keep (i + 1) hj44, lost_succ, if_pos ⟨HJ.out, KI.out⟩, HLO.out]; rfl)
          have y4d : wd.cell? ⟨wo.heap.size, 4, none⟩ = some (.int .i64 (j : Int)) := (World.cell?_of_block (a := ⟨wo.heap.size, 4, none⟩) (CHd.out.block _ (World.block_lt_of_cell? _ _ y4c) (fun h => by have h : wo.heap.size = w1.heap.size + 1 := h; omega))).trans y4c
          have RWd := Lib.hid (own_of_eq RWc.out (fun g1 hg1 => CHd.out.block g1 (RWc.out.lt g1 hg1).2 (NG.out g1 hg1)))
          have BWd := Lib.hid (BWc.out.trans (CHd.out.below (by omega) (fun k hk => by omega)))
          rw [hwd]
          clear hwd y4c k0c g0c BLc RWc BWc CHd p8
          by_cases hgt : mx < lo + 1
          · have d1 : decide (mx < lo + 1) = true := decide_eq_true hgt
            have d2 : decide ((mx : Int) < ((lo + 1 : Nat) : Int)) = true := decide_eq_true (by omega)
            have d3 : decide ((mx : Int) < (lo : Int) + 1) = true := decide_eq_true (by omega)
            go_wp2_with fail
            go_roundw
            case rel => first | exact ⟨i + 1, m, lo + 1, PS, rfl, rfl, by omega, HPM.out, by rw [SI.out]; exact HPS.out, RWd.out, NG.out, by have h := most_put MX.out hj44 HJ.out KI.out; rw [HLO.out] at h; rw [show lo + 1 = max mx (lo + 1) by omega]; exact h, BLd.out, BWd.out⟩ | ((repeat apply Exists.intro); exact ⟨⟨i + 1, m, lo + 1, PS, rfl, rfl, by omega, HPM.out, by rw [SI.out]; exact HPS.out, RWd.out, NG.out, by have h := most_put MX.out hj44 HJ.out KI.out; rw [HLO.out] at h; rw [show lo + 1 = max mx (lo + 1) by omega]; exact h, BLd.out, BWd.out⟩, rfl⟩)
            case measure => (simp only [intOf]; omega)
          · have d1 : decide (mx < lo + 1) = false := decide_eq_false hgt
            have d2 : decide ((mx : Int) < ((lo + 1 : Nat) : Int)) = false := decide_eq_false (by omega)
            have d3 : decide ((mx : Int) < (lo : Int) + 1) = false := decide_eq_false (by omega)
            go_wp2_with fail
            go_roundw
            case rel => first | exact ⟨i + 1, m, mx, PS, rfl, rfl, by omega, HPM.out, by rw [SI.out]; exact HPS.out, RWd.out, NG.out, by have h := most_put MX.out hj44 HJ.out KI.out; rw [HLO.out] at h; rw [show mx = max mx (lo + 1) by omega]; exact h, BLd.out, BWd.out⟩ | ((repeat apply Exists.intro); exact ⟨⟨i + 1, m, mx, PS, rfl, rfl, by omega, HPM.out, by rw [SI.out]; exact HPS.out, RWd.out, NG.out, by have h := most_put MX.out hj44 HJ.out KI.out; rw [HLO.out] at h; rw [show mx = max mx (lo + 1) by omega]; exact h, BLd.out, BWd.out⟩, rfl⟩)
            case measure => (simp only [intOf]; omega)
        | true =>
          have KI := Lib.hid hk
          have SI := Lib.hid (show (List.range (i + 1)).filter keep = (List.range i).filter keep ++ [i] by rw [List.range_succ, List.filter_append]; simp [hk])
          have SP := Lib.hid (show strip p = shF [107] 7 sz q 5 i by have h := congrArg (fun l => l[i]?) HP.out; simp only [List.getElem?_map, HPI.out, List.getElem?_range hlt, Option.map_some] at h; exact Option.some.inj h)
          have hrow := fun t u hu => own_cell OW.out (j := i * 12 + t) (u := u) hu
          have p9 : IntKind.i64.wrap ((i : Int) + 1) = ((i + 1 : Nat) : Int) := by rw [IntWalk.i64_in _ (by omega)]; omega
          have x0 : wc.cell? ⟨gP, i * 12, none⟩ = some (.int .i64 p.cart) := keepc BWc.out hgP1 (hrow 0 _ (by rw [foundVals_get HPI.out (by omega)]; rfl))
          have x1 : wc.cell? ⟨gP, i * 12 + 1, none⟩ = some (.int .i64 p.pos) := keepc BWc.out hgP1 (hrow 1 _ (by rw [foundVals_get HPI.out (by omega)]; rfl))
          have x2 : wc.cell? ⟨gP, i * 12 + 2, none⟩ = some (.int .i64 p.r.kind) := keepc BWc.out hgP1 (hrow 2 _ (by rw [foundVals_get HPI.out (by omega)]; rfl))
          have x3 : wc.cell? ⟨gP, i * 12 + 3, none⟩ = some (.int .i64 p.r.cart) := keepc BWc.out hgP1 (hrow 3 _ (by rw [foundVals_get HPI.out (by omega)]; rfl))
          have x4 : wc.cell? ⟨gP, i * 12 + 4, none⟩ = some (strV p.r.key) := keepc BWc.out hgP1 (hrow 4 _ (by rw [foundVals_get HPI.out (by omega)]; rfl))
          have x5 : wc.cell? ⟨gP, i * 12 + 5, none⟩ = some (.int .i64 p.r.gen) := keepc BWc.out hgP1 (hrow 5 _ (by rw [foundVals_get HPI.out (by omega)]; rfl))
          have x6 : wc.cell? ⟨gP, i * 12 + 6, none⟩ = some (.int .i64 p.r.group) := keepc BWc.out hgP1 (hrow 6 _ (by rw [foundVals_get HPI.out (by omega)]; rfl))
          have x7 : wc.cell? ⟨gP, i * 12 + 7, none⟩ = some (.int .i64 p.r.groups) := keepc BWc.out hgP1 (hrow 7 _ (by rw [foundVals_get HPI.out (by omega)]; rfl))
          have x8 : wc.cell? ⟨gP, i * 12 + 8, none⟩ = some (.int .i64 p.r.index) := keepc BWc.out hgP1 (hrow 8 _ (by rw [foundVals_get HPI.out (by omega)]; rfl))
          have x9 : wc.cell? ⟨gP, i * 12 + 9, none⟩ = some (.int .i64 p.r.size) := keepc BWc.out hgP1 (hrow 9 _ (by rw [foundVals_get HPI.out (by omega)]; rfl))
          have x10 : wc.cell? ⟨gP, i * 12 + 10, none⟩ = some (strV p.r.sum) := keepc BWc.out hgP1 (hrow 10 _ (by rw [foundVals_get HPI.out (by omega)]; rfl))
          have x11 : wc.cell? ⟨gP, i * 12 + 11, none⟩ = some (.slice p.A p.r.data.length p.c) := keepc BWc.out hgP1 (hrow 11 _ (by rw [foundVals_get HPI.out (by omega)]; rfl))
          clear hrow
          go_wp2_with (
            (at_builtin
             refine wpList_append_src _ rfl (.tmp 71) (.tmp 76) 22 rfl w1.heap.size 39 i0 _ 12 128 Try.underlying22 hi0 hz0 hz1 hz2 rfl (by omega) _ _ _ rfl (by exact RWc.out.alloc _) (some ⟨wc.heap.size, 0, none⟩) 1 1 (foundCells p).toList rfl rfl (fun e => by cases e) (by exact src_new _ _ _ _) (foundCells_one _) (by simp only [maxLen]; omega) (by omega) (by simp; omega) ?_
             intro v' w9 hown9 hgr9 hat9
             rw [← foundVals_snoc] at hown9
             have OW9 := Lib.hid hown9
             have HB9 := Lib.hid ((BWc.out.alloc (by omega) _).grown hgr9 (by simp; omega) (fun q hq => (RWc.out.lt q hq).1))
             have BL9 := Lib.hid ((BLc.out.alloc (.cells (foundCells p).toList.toArray 39)).grown hgr9 (fun hq => NG.out _ hq rfl))
             have NG9 := Lib.hid (show ∀ g, v'.ownBlock = some g → g ≠ w1.heap.size + 1 from fun g hg => (by rcases hat9 with h | h; exact NG.out g (h ▸ hg); rw [h] at hg; have e := Option.some.inj hg; simp at e; omega))
             clear hown9 hgr9 hat9))
          go_roundw
          case rel => first | exact ⟨i + 1, m + 1, mx, PS ++ [p], rfl, rfl, by omega, by rw [List.length_append, HPM.out]; rfl, by rw [List.map_append, HPS.out, SI.out, List.map_append, List.map_singleton, List.map_singleton, SP.out], OW9.out, NG9.out, most_keep MX.out KI.out, by rw [lost_keep KI.out]; exact BL9.out, HB9.out⟩ | ((repeat apply Exists.intro); exact ⟨⟨i + 1, m + 1, mx, PS ++ [p], rfl, rfl, by omega, by rw [List.length_append, HPM.out]; rfl, by rw [List.map_append, HPS.out, SI.out, List.map_append, List.map_singleton, List.map_singleton, SP.out], OW9.out, NG9.out, most_keep MX.out KI.out, by rw [lost_keep KI.out]; exact BL9.out, HB9.out⟩, rfl⟩)
          case measure => (simp only [intOf]; omega)
    · have hiq2 : i = q * 10 := by omega
      subst hiq2
      have f1 : decide (q * 10 < q * 10) = false := decide_eq_false hlt
      have f5 : decide ((q : Int) * 10 < (q : Int) * 10) = false := decide_eq_false (by omega)
      have f2 : decide (((q * 10 : Nat) : Int) < ((q * 10 : Nat) : Int)) = false := decide_eq_false (by omega)
      obtain ⟨hm1, hm2⟩ := MX.out
      have hS := own_srcv RW.out (fun h => by rw [List.eq_nil_of_length_eq_zero (HPM.out.trans h)]; simp [foundVals])
      obtain ⟨_, _, hve, _, _, _, hsr, _⟩ := hS
      injection hve with hv1 hv2 hv3
      subst hv1
      have SR := Lib.hid hsr
      clear hsr hv2 hv3
      have SB := Lib.hid (show Calls Try.prog 10 #[.slice A1 m k1] wo fun e w' => ∃ B es, e = .returned (.tuple #[.slice B es.length es.length, .int .i64 (mostV (PS.filter okF))]) ∧ BestR (PS.filter okF) wo w' B es from by
        have h := sBestL A1 k1 PS wo (by rw [HPM.out]; exact SR.out) (by rw [HPM.out]; omega)
        rw [HPM.out] at h
        exact h.mono fun e w2 ⟨B, es, h1, _, h2⟩ => ⟨B, es, h1, h2⟩)
      go_upto_region 15 with (go_at_call 10; (refine (SB.out).mono ?_; rintro e w5 ⟨B5, es, rfl, hr⟩; have R5 := Lib.hid hr; have hz5 : wo.heap.size ≤ w5.heap.size := hr.base.size; clear hr))
      have OKC := Lib.hid (show ∀ x ∈ copyL [107] 7 sz q 5 keep, okF x = true from fun x hx => by obtain ⟨t, ht, rfl⟩ := List.mem_map.1 hx; exact ok_copy (by decide) (by decide) hsz5 HQ.out (by omega) (List.mem_range.1 (List.mem_filter.1 ht).1))
      have hke : copyL [107] 7 sz q 5 keep = copyL [107] 7 sz q 5 keep ++ [] := (List.append_nil _).symm
      have hke2 : ∀ x ∈ ([] : List FoundP), x.r.kind = 3 := fun x hx => by cases hx
      have HK1 := Lib.hid hke
      have HK2 := Lib.hid hke2
      clear hke hke2
      by_cases hmx : 2 < mx
      · have d1 : decide (2 < mx) = true := decide_eq_true hmx
        have d2 : decide ((2 : Int) < (mx : Int)) = true := decide_eq_true (by omega)
        have hes := none_of (best_known HPS.out OKC.out R5.out.best (best_ct0 HK1.out HK2.out OKC.out (by omega) (.inl (by rcases hm2 with h | ⟨j, hj, hjm⟩; omega; exact ⟨j, Decidable.byContradiction fun hc => by have := lost_none keep j (q * 10) (by omega); omega, by have := lost_cnt keep (q := q) (j := j) (Decidable.byContradiction fun hc => by have := lost_none keep j (q * 10) (by omega); omega); omega⟩))))
        subst hes
        clear hm1 hm2
        go_wp2_with (go_at_call 12; (refine (sAwake _).mono ?_; rintro e w6 ⟨rfl, hb6⟩; have BW6 := Lib.hid (show Below w.heap.size w w6 from B1.out.trans ((BW.out.trans ((R5.out.base.trans (hb6.mono R5.out.base.size)).mono BW.out.size)).mono B1.out.size)); clear hb6))
        go_ret
        exact ⟨rfl, BW6.out⟩
      · have d1 : decide (2 < mx) = false := decide_eq_false hmx
        have d2 : decide ((2 : Int) < (mx : Int)) = false := decide_eq_false (by omega)
        have d3 : ¬ (2 : Int) < (mx : Int) := by omega
        obtain ⟨e1, hes, he1⟩ := one_of (best_known HPS.out OKC.out R5.out.best (best_ct HK1.out HK2.out OKC.out (by omega) hq1 (fun j hj => by have h1 := hm1 j (by omega); have h2 := lost_cnt keep hj; omega) (fun x hx => by cases hx)))
        subst hes
        have HE := Lib.hid he1
        clear hm1 hm2 he1
        obtain ⟨b5, o5, hB5, hc5⟩ := src_some R5.out.row (by simp)
        subst hB5
        have x0 : w5.cell? ⟨b5, o5 + 0, none⟩ = some (.string ⟨#[107]⟩) := hc5 0 _ (by rw [show entVals [e1] = entCells e1 from rfl]; unfold entCells; rw [HE.out]; rfl)
        rw [Nat.add_zero] at x0
        have x1 : w5.cell? ⟨b5, o5 + 1, none⟩ = some (.int .i64 7) := hc5 1 _ (by rw [show entVals [e1] = entCells e1 from rfl]; unfold entCells; rw [HE.out]; rfl)
        have xP4 : w5.cell? ⟨b5, o5 + 4, none⟩ = some (.slice (some ⟨e1.g, 0, none⟩) (q * 10) (q * 10)) := hc5 4 _ (by rw [show entVals [e1] = entCells e1 from rfl]; unfold entCells; rw [HE.out, slots_blob]; rfl)
        have hbz := World.block_lt_of_cell? _ _ x0
        have PLB := Lib.hid (show Blk w5 e1.g 34 (placeVals ((List.range (q * 10)).map (atF 5 keep))).toArray by have h := (R5.out.places e1 (by simp)).2; rw [HE.out] at h; have h2 := places_strip (PS.filter okF) (blobOf [107] 7 sz q); rw [filter_strip, show PS.map strip = copyL [107] 7 sz q 5 keep from HPS.out, filter_all OKC.out, places_ct HK1.out HK2.out] at h2; rw [← h2] at h; exact h)
        clear hc5
        go_wp2_with fail
        go_loopw [13] (fun iv wr => ∃ i : Nat, iv = .int .i64 (i : Int) ∧ i ≤ q * 10 ∧ Below w5.heap.size w5 wr) (fun iv _ => q * 10 - (intOf iv).toNat)
        case atStart => exact ⟨0, rfl, Nat.zero_le _, Below.refl _ _⟩
        case round =>
          obtain ⟨i, rfl, hiq, hbl⟩ := hrel
          obtain ⟨wo2, rfl⟩ : ∃ wo2 : World, wo2 = wr := ⟨_, rfl⟩
          have BL2 := Lib.hid hbl
          have hz6 : w5.heap.size ≤ wo2.heap.size := hbl.size
          clear hbl
          have BWW := Lib.hid (show Below w1.heap.size w1 wo2 from BW.out.trans ((R5.out.base.trans (BL2.out.mono R5.out.base.size)).mono BW.out.size))
          by_cases hlt2 : i < q * 10
          · have i1 : decide (i < q * 10) = true := decide_eq_true hlt2
            have i2 : decide ((i : Int) < ((q * 10 : Nat) : Int)) = true := decide_eq_true (by omega)
            have i3 : (i : Int) < (q : Int) * 10 := by omega
            have i5 : decide ((i : Int) < (q : Int) * 10) = true := decide_eq_true i3
            have i6 : (0 : Int) ≤ (i : Int) := by omega
            have p9 : IntKind.i64.wrap ((i : Int) + 1) = ((i + 1 : Nat) : Int) := by rw [IntWalk.i64_in _ (by omega)]; omega
            obtain ⟨p, hp⟩ : ∃ p, P[i]? = some p := ⟨_, List.getElem?_eq_getElem (by rw [HL.out]; exact hlt2)⟩
            have hpr : p.r = shR [107] 7 sz q (i / 10) (i % 10) ∧ p.cart = ((i % 10 : Nat) : Int) ∧ p.pos = ((5 + i / 10 : Nat) : Int) := by
              have h := congrArg (fun l => l[i]?) HP.out
              simp only [List.getElem?_map, hp, List.getElem?_range hlt2, Option.map_some] at h
              have h2 := Option.some.inj h
              exact ⟨congrArg FoundP.r h2, congrArg FoundP.cart h2, congrArg FoundP.pos h2⟩
            obtain ⟨j, hj⟩ : ∃ j, i / 10 = j := ⟨_, rfl⟩
            obtain ⟨t, ht⟩ : ∃ t, i % 10 = t := ⟨_, rfl⟩
            rw [hj, ht] at hpr
            have HJ := Lib.hid hj
            have HT := Lib.hid ht
            have hj4 : j < q := by omega
            have ht10 : t < 10 := by omega
            clear hj ht
            have hrow := fun t u hu => own_cell OW.out (j := i * 12 + t) (u := u) hu
            have xa0 : wo2.cell? ⟨gP, i * 12, none⟩ = some (.int .i64 (t : Int)) := keepc BWW.out hgP1 (hrow 0 _ (by rw [foundVals_get hp (by omega)]; unfold foundCells; rw [hpr.2.1]; rfl))
            have xa1 : wo2.cell? ⟨gP, i * 12 + 1, none⟩ = some (.int .i64 ((5 + j : Nat) : Int)) := keepc BWW.out hgP1 (hrow 1 _ (by rw [foundVals_get hp (by omega)]; unfold foundCells; rw [hpr.2.2]; rfl))
            have x2 : wo2.cell? ⟨gP, i * 12 + 2, none⟩ = some (.int .i64 2) := keepc BWW.out hgP1 (hrow 2 _ (by rw [foundVals_get hp (by omega)]; unfold foundCells; rw [hpr.1]; rfl))
            have x3 : wo2.cell? ⟨gP, i * 12 + 3, none⟩ = some (.int .i64 0) := keepc BWW.out hgP1 (hrow 3 _ (by rw [foundVals_get hp (by omega)]; unfold foundCells; rw [hpr.1]; rfl))
            have x4 : wo2.cell? ⟨gP, i * 12 + 4, none⟩ = some (strV [107]) := keepc BWW.out hgP1 (hrow 4 _ (by rw [foundVals_get hp (by omega)]; unfold foundCells; rw [hpr.1]; rfl))
            have x5 : wo2.cell? ⟨gP, i * 12 + 5, none⟩ = some (.int .i64 7) := keepc BWW.out hgP1 (hrow 5 _ (by rw [foundVals_get hp (by omega)]; unfold foundCells; rw [hpr.1]; rfl))
            have x6 : wo2.cell? ⟨gP, i * 12 + 6, none⟩ = some (.int .i64 (j : Int)) := keepc BWW.out hgP1 (hrow 6 _ (by rw [foundVals_get hp (by omega)]; unfold foundCells; rw [hpr.1]; rfl))
            have x7 : wo2.cell? ⟨gP, i * 12 + 7, none⟩ = some (.int .i64 (q : Int)) := keepc BWW.out hgP1 (hrow 7 _ (by rw [foundVals_get hp (by omega)]; unfold foundCells; rw [hpr.1]; rfl))
            have x8 : wo2.cell? ⟨gP, i * 12 + 8, none⟩ = some (.int .i64 (t : Int)) := keepc BWW.out hgP1 (hrow 8 _ (by rw [foundVals_get hp (by omega)]; unfold foundCells; rw [hpr.1]; rfl))
            have x9 : wo2.cell? ⟨gP, i * 12 + 9, none⟩ = some (.int .i64 (sz : Int)) := keepc BWW.out hgP1 (hrow 9 _ (by rw [foundVals_get hp (by omega)]; unfold foundCells; rw [hpr.1]; rfl))
            have x10 : wo2.cell? ⟨gP, i * 12 + 10, none⟩ = some (strV (digV sz)) := keepc BWW.out hgP1 (hrow 10 _ (by rw [foundVals_get hp (by omega)]; unfold foundCells; rw [hpr.1]; rfl))
            have x11 : wo2.cell? ⟨gP, i * 12 + 11, none⟩ = some (.slice p.A 16 p.c) := keepc BWW.out hgP1 (hrow 11 _ (by rw [foundVals_get hp (by omega)]; unfold foundCells; rw [hpr.1]; rfl))
            clear hp hpr hrow
            have hpg := placeVals_get (show ((List.range (q * 10)).map (atF 5 keep))[i]? = some (atF 5 keep i) by rw [List.getElem?_map, List.getElem?_range hlt2]; rfl)
            obtain ⟨pa, hpa⟩ : ∃ z, (atF 5 keep i).1 = z := ⟨_, rfl⟩
            obtain ⟨pb, hpb⟩ : ∃ z, (atF 5 keep i).2 = z := ⟨_, rfl⟩
            rw [hpa, hpb] at hpg
            have v0 : wo2.cell? ⟨e1.g, i * 2, none⟩ = some (.int .i64 pa) := keepc BL2.out PLB.out.size ((PLB.out.cell _).trans (by rw [List.getElem?_toArray]; exact hpg.1))
            have v1 : wo2.cell? ⟨e1.g, i * 2 + 1, none⟩ = some (.int .i64 pb) := keepc BL2.out PLB.out.size ((PLB.out.cell _).trans (by rw [List.getElem?_toArray]; exact hpg.2))
            have y4 : wo2.cell? ⟨b5, o5 + 4, none⟩ = some (.slice (some ⟨e1.g, 0, none⟩) (q * 10) (q * 10)) := keepc BL2.out hbz xP4
            have HPA := Lib.hid hpa
            have HPB := Lib.hid hpb
            clear hpg hpa hpb
            go_upto_region 22 with fail
            go_cut [14, 15] from 124 to 190 (fun rv pv wx => ∃ gr gp, rv = .pointer (some ⟨gr, 0, none⟩) ∧ pv = .pointer (some ⟨gp, 0, none⟩) ∧ Blk wx gr 37 #[.int .i64 2, .int .i64 0, strV [107], .int .i64 7, .int .i64 (j : Int), .int .i64 (q : Int), .int .i64 (t : Int), .int .i64 (sz : Int), strV (digV sz), .slice p.A 16 p.c] ∧ Blk wx gp 34 #[.int .i64 pa, .int .i64 pb] ∧ Below wo2.heap.size wo2 wx)
            case first =>
              have hgPz : gP < wo2.heap.size := World.block_lt_of_cell? _ _ x2
              have he1z : e1.g < wo2.heap.size := World.block_lt_of_cell? _ _ v0
              have hb5z : b5 < wo2.heap.size := World.block_lt_of_cell? _ _ y4
              refine wp_region_held_drew (S := (fun w' => w'.cell? ⟨gP, i * 12 + 2, none⟩ = some (.int .i64 2) ∧ w'.cell? ⟨gP, i * 12 + 3, none⟩ = some (.int .i64 0) ∧ w'.cell? ⟨gP, i * 12 + 4, none⟩ = some (strV [107]) ∧ w'.cell? ⟨gP, i * 12 + 5, none⟩ = some (.int .i64 7) ∧ w'.cell? ⟨gP, i * 12 + 6, none⟩ = some (.int .i64 (j : Int)) ∧ w'.cell? ⟨gP, i * 12 + 7, none⟩ = some (.int .i64 (q : Int)) ∧ w'.cell? ⟨gP, i * 12 + 8, none⟩ = some (.int .i64 (t : Int)) ∧ w'.cell? ⟨gP, i * 12 + 9, none⟩ = some (.int .i64 (sz : Int)) ∧ w'.cell? ⟨gP, i * 12 + 10, none⟩ = some (strV (digV sz)) ∧ w'.cell? ⟨gP, i * 12 + 11, none⟩ = some (.slice p.A 16 p.c) ∧ w'.cell? ⟨e1.g, i * 2, none⟩ = some (.int .i64 pa) ∧ w'.cell? ⟨e1.g, i * 2 + 1, none⟩ = some (.int .i64 pb) ∧ w'.cell? ⟨b5, o5 + 4, none⟩ = some (.slice (some ⟨e1.g, 0, none⟩) (q * 10) (q * 10)))) (by kernel_rfl) ⟨x2, x3, x4, x5, x6, x7, x8, x9, x10, x11, v0, v1, y4⟩ (fun hHeld => ?_)
              refine wpAnyH_take (i := 0) (v := ?vQ22n40) (take_list rfl) (by kernel_rfl) (by kernel_rfl) (by kernel_rfl) (fun _ _ _ h => h) (Or.inl ⟨by rfl, ?hyQ22n40⟩) (by assumption) ?restQ22n40
              case hyQ22n40 => (intro w hSw; (try dsimp only at hSw); go_simp <;> with_reducible rfl)
              try simp only [Act.put, List.setIfInBounds_toArray, List.set_cons_zero, List.set_cons_succ]
              refine wpAnyH_take (i := 1) (v := ?vQ22n41) (take_list rfl) (by kernel_rfl) (by kernel_rfl) (by kernel_rfl) (fun _ _ _ h => h) (Or.inl ⟨by rfl, ?hyQ22n41⟩) (by assumption) ?restQ22n41
              case hyQ22n41 => (intro w hSw; (try dsimp only at hSw); go_simp <;> with_reducible rfl)
              try simp only [Act.put, List.setIfInBounds_toArray, List.set_cons_zero, List.set_cons_succ]
              refine wpAnyH_take (i := 2) (v := ?vQ22n42) (take_list rfl) (by kernel_rfl) (by kernel_rfl) (by kernel_rfl) (fun _ _ _ h => h) (Or.inl ⟨by rfl, ?hyQ22n42⟩) (by assumption) ?restQ22n42
              case hyQ22n42 => (intro w hSw; (try dsimp only at hSw); go_simp <;> with_reducible rfl)
              try simp only [Act.put, List.setIfInBounds_toArray, List.set_cons_zero, List.set_cons_succ]
              refine wpAnyH_take (i := 3) (v := ?vQ22n43) (take_list rfl) (by kernel_rfl) (by kernel_rfl) (by kernel_rfl) (fun _ _ _ h => h) (Or.inl ⟨by rfl, ?hyQ22n43⟩) (by assumption) ?restQ22n43
              case hyQ22n43 => (intro w hSw; (try dsimp only at hSw); go_simp <;> with_reducible rfl)
              try simp only [Act.put, List.setIfInBounds_toArray, List.set_cons_zero, List.set_cons_succ]
              refine wpAnyH_take (i := 4) (v := ?vQ22n44) (take_list rfl) (by kernel_rfl) (by kernel_rfl) (by kernel_rfl) (fun _ _ _ h => h) (Or.inl ⟨by rfl, ?hyQ22n44⟩) (by assumption) ?restQ22n44
              case hyQ22n44 => (intro w hSw; (try dsimp only at hSw); go_simp <;> with_reducible rfl)
              try simp only [Act.put, List.setIfInBounds_toArray, List.set_cons_zero, List.set_cons_succ]
              refine wpAnyH_take (i := 5) (v := ?vQ22n45) (take_list rfl) (by kernel_rfl) (by kernel_rfl) (by kernel_rfl) (fun _ _ _ h => h) (Or.inl ⟨by rfl, ?hyQ22n45⟩) (by assumption) ?restQ22n45
              case hyQ22n45 => (intro w hSw; (try dsimp only at hSw); go_simp <;> with_reducible rfl)
              try simp only [Act.put, List.setIfInBounds_toArray, List.set_cons_zero, List.set_cons_succ]
              refine wpAnyH_take (i := 6) (v := ?vQ22n46) (take_list rfl) (by kernel_rfl) (by kernel_rfl) (by kernel_rfl) (fun _ _ _ h => h) (Or.inl ⟨by rfl, ?hyQ22n46⟩) (by assumption) ?restQ22n46
              case hyQ22n46 => (intro w hSw; (try dsimp only at hSw); go_simp <;> with_reducible rfl)
              try simp only [Act.put, List.setIfInBounds_toArray, List.set_cons_zero, List.set_cons_succ]
              refine wpAnyH_take (i := 7) (v := ?vQ22n47) (take_list rfl) (by kernel_rfl) (by kernel_rfl) (by kernel_rfl) (fun _ _ _ h => h) (Or.inl ⟨by rfl, ?hyQ22n47⟩) (by assumption) ?restQ22n47
              case hyQ22n47 => (intro w hSw; (try dsimp only at hSw); go_simp <;> with_reducible rfl)
              try simp only [Act.put, List.setIfInBounds_toArray, List.set_cons_zero, List.set_cons_succ]
              refine wpAnyH_take (i := 8) (v := ?vQ22n48) (take_list rfl) (by kernel_rfl) (by kernel_rfl) (by kernel_rfl) (fun _ _ _ h => h) (Or.inl ⟨by rfl, ?hyQ22n48⟩) (by assumption) ?restQ22n48
              case hyQ22n48 => (intro w hSw; (try dsimp only at hSw); go_simp <;> with_reducible rfl)
              try simp only [Act.put, List.setIfInBounds_toArray, List.set_cons_zero, List.set_cons_succ]
              refine wpAnyH_take (i := 9) (v := ?vQ22n49) (take_list rfl) (by kernel_rfl) (by kernel_rfl) (by kernel_rfl) (fun _ _ _ h => h) (Or.inl ⟨by rfl, ?hyQ22n49⟩) (by assumption) ?restQ22n49
              case hyQ22n49 => (intro w hSw; (try dsimp only at hSw); go_simp <;> with_reducible rfl)
              try simp only [Act.put, List.setIfInBounds_toArray, List.set_cons_zero, List.set_cons_succ]
              refine wpAnyH_take (i := 10) (v := ?vQ22n410) (take_list rfl) (by kernel_rfl) (by kernel_rfl) (by kernel_rfl) (fun _ _ _ h => h) (Or.inl ⟨by rfl, ?hyQ22n410⟩) (by assumption) ?restQ22n410
              case hyQ22n410 => (intro w hSw; (try dsimp only at hSw); go_simp <;> with_reducible rfl)
              try simp only [Act.put, List.setIfInBounds_toArray, List.set_cons_zero, List.set_cons_succ]
              refine wpAnyH_take (i := 11) (v := ?vQ22n411) (take_list rfl) (by kernel_rfl) (by kernel_rfl) (by kernel_rfl) (fun _ _ _ h => h) (Or.inl ⟨by rfl, ?hyQ22n411⟩) (by assumption) ?restQ22n411
              case hyQ22n411 => (intro w hSw; (try dsimp only at hSw); go_simp <;> with_reducible rfl)
              try simp only [Act.put, List.setIfInBounds_toArray, List.set_cons_zero, List.set_cons_succ]
              refine wpAnyH_ready (rs := [12, 13]) (by kernel_rfl) (by simp) ?_
              refine AllReadyH.cons rfl (fun K hK => ?_) (AllReadyH.cons rfl (fun K hK => ?_) AllReadyH.nil)
              · go_simp
                clear hHeld
                refine hK.out _ _ (by first | with_reducible exact ⟨keepc (below_ad wo2 _) hgPz x2, keepc (below_ad wo2 _) hgPz x3, keepc (below_ad wo2 _) hgPz x4, keepc (below_ad wo2 _) hgPz x5, keepc (below_ad wo2 _) hgPz x6, keepc (below_ad wo2 _) hgPz x7, keepc (below_ad wo2 _) hgPz x8, keepc (below_ad wo2 _) hgPz x9, keepc (below_ad wo2 _) hgPz x10, keepc (below_ad wo2 _) hgPz x11, keepc (below_ad wo2 _) he1z v0, keepc (below_ad wo2 _) he1z v1, keepc (below_ad wo2 _) hb5z y4⟩ | with_reducible exact ⟨keepc (below_aad wo2 _ _) hgPz x2, keepc (below_aad wo2 _ _) hgPz x3, keepc (below_aad wo2 _ _) hgPz x4, keepc (below_aad wo2 _ _) hgPz x5, keepc (below_aad wo2 _ _) hgPz x6, keepc (below_aad wo2 _ _) hgPz x7, keepc (below_aad wo2 _ _) hgPz x8, keepc (below_aad wo2 _ _) hgPz x9, keepc (below_aad wo2 _ _) hgPz x10, keepc (below_aad wo2 _ _) hgPz x11, keepc (below_aad wo2 _ _) he1z v0, keepc (below_aad wo2 _ _) he1z v1, keepc (below_aad wo2 _ _) hb5z y4⟩ | exact ⟨keepc (show Below wo2.heap.size wo2 _ from (below_drewed _ wo2)) hgPz x2, keepc (show Below wo2.heap.size wo2 _ from (below_drewed _ wo2)) hgPz x3, keepc (show Below wo2.heap.size wo2 _ from (below_drewed _ wo2)) hgPz x4, keepc (show Below wo2.heap.size wo2 _ from (below_drewed _ wo2)) hgPz x5, keepc (show Below wo2.heap.size wo2 _ from (below_drewed _ wo2)) hgPz x6, keepc (show Below wo2.heap.size wo2 _ from (below_drewed _ wo2)) hgPz x7, keepc (show Below wo2.heap.size wo2 _ from (below_drewed _ wo2)) hgPz x8, keepc (show Below wo2.heap.size wo2 _ from (below_drewed _ wo2)) hgPz x9, keepc (show Below wo2.heap.size wo2 _ from (below_drewed _ wo2)) hgPz x10, keepc (show Below wo2.heap.size wo2 _ from (below_drewed _ wo2)) hgPz x11, keepc (show Below wo2.heap.size wo2 _ from (below_drewed _ wo2)) he1z v0, keepc (show Below wo2.heap.size wo2 _ from (below_drewed _ wo2)) he1z v1, keepc (show Below wo2.heap.size wo2 _ from (below_drewed _ wo2)) hb5z y4⟩) (fun hHeld => ?_)
                clear hK K
                refine wpAnyH_ready (rs := [13]) (by kernel_rfl) (by simp) ?_
                refine AllReadyH.cons rfl (fun K hK => ?_) AllReadyH.nil
                go_simp
                clear hHeld
                refine hK.out _ _ (by first | with_reducible exact ⟨keepc (below_ad wo2 _) hgPz x2, keepc (below_ad wo2 _) hgPz x3, keepc (below_ad wo2 _) hgPz x4, keepc (below_ad wo2 _) hgPz x5, keepc (below_ad wo2 _) hgPz x6, keepc (below_ad wo2 _) hgPz x7, keepc (below_ad wo2 _) hgPz x8, keepc (below_ad wo2 _) hgPz x9, keepc (below_ad wo2 _) hgPz x10, keepc (below_ad wo2 _) hgPz x11, keepc (below_ad wo2 _) he1z v0, keepc (below_ad wo2 _) he1z v1, keepc (below_ad wo2 _) hb5z y4⟩ | with_reducible exact ⟨keepc (below_aad wo2 _ _) hgPz x2, keepc (below_aad wo2 _ _) hgPz x3, keepc (below_aad wo2 _ _) hgPz x4, keepc (below_aad wo2 _ _) hgPz x5, keepc (below_aad wo2 _ _) hgPz x6, keepc (below_aad wo2 _ _) hgPz x7, keepc (below_aad wo2 _ _) hgPz x8, keepc (below_aad wo2 _ _) hgPz x9, keepc (below_aad wo2 _ _) hgPz x10, keepc (below_aad wo2 _ _) hgPz x11, keepc (below_aad wo2 _ _) he1z v0, keepc (below_aad wo2 _ _) he1z v1, keepc (below_aad wo2 _ _) hb5z y4⟩ | exact ⟨keepc (show Below wo2.heap.size wo2 _ from (below_drewed _ wo2)) hgPz x2, keepc (show Below wo2.heap.size wo2 _ from (below_drewed _ wo2)) hgPz x3, keepc (show Below wo2.heap.size wo2 _ from (below_drewed _ wo2)) hgPz x4, keepc (show Below wo2.heap.size wo2 _ from (below_drewed _ wo2)) hgPz x5, keepc (show Below wo2.heap.size wo2 _ from (below_drewed _ wo2)) hgPz x6, keepc (show Below wo2.heap.size wo2 _ from (below_drewed _ wo2)) hgPz x7, keepc (show Below wo2.heap.size wo2 _ from (below_drewed _ wo2)) hgPz x8, keepc (show Below wo2.heap.size wo2 _ from (below_drewed _ wo2)) hgPz x9, keepc (show Below wo2.heap.size wo2 _ from (below_drewed _ wo2)) hgPz x10, keepc (show Below wo2.heap.size wo2 _ from (below_drewed _ wo2)) hgPz x11, keepc (show Below wo2.heap.size wo2 _ from (below_drewed _ wo2)) he1z v0, keepc (show Below wo2.heap.size wo2 _ from (below_drewed _ wo2)) he1z v1, keepc (show Below wo2.heap.size wo2 _ from (below_drewed _ wo2)) hb5z y4⟩) (fun hHeld => ?_)
                clear hK K
                refine wpAnyH_ready (rs := [14]) (by kernel_rfl) (by simp) ?_
                refine AllReadyH.cons rfl (fun K hK => ?_) AllReadyH.nil
                go_simp
                clear hHeld
                refine hK.out _ _ (by first | with_reducible exact ⟨keepc (below_ad wo2 _) hgPz x2, keepc (below_ad wo2 _) hgPz x3, keepc (below_ad wo2 _) hgPz x4, keepc (below_ad wo2 _) hgPz x5, keepc (below_ad wo2 _) hgPz x6, keepc (below_ad wo2 _) hgPz x7, keepc (below_ad wo2 _) hgPz x8, keepc (below_ad wo2 _) hgPz x9, keepc (below_ad wo2 _) hgPz x10, keepc (below_ad wo2 _) hgPz x11, keepc (below_ad wo2 _) he1z v0, keepc (below_ad wo2 _) he1z v1, keepc (below_ad wo2 _) hb5z y4⟩ | with_reducible exact ⟨keepc (below_aad wo2 _ _) hgPz x2, keepc (below_aad wo2 _ _) hgPz x3, keepc (below_aad wo2 _ _) hgPz x4, keepc (below_aad wo2 _ _) hgPz x5, keepc (below_aad wo2 _ _) hgPz x6, keepc (below_aad wo2 _ _) hgPz x7, keepc (below_aad wo2 _ _) hgPz x8, keepc (below_aad wo2 _ _) hgPz x9, keepc (below_aad wo2 _ _) hgPz x10, keepc (below_aad wo2 _ _) hgPz x11, keepc (below_aad wo2 _ _) he1z v0, keepc (below_aad wo2 _ _) he1z v1, keepc (below_aad wo2 _ _) hb5z y4⟩ | exact ⟨keepc (show Below wo2.heap.size wo2 _ from (below_drewed _ wo2)) hgPz x2, keepc (show Below wo2.heap.size wo2 _ from (below_drewed _ wo2)) hgPz x3, keepc (show Below wo2.heap.size wo2 _ from (below_drewed _ wo2)) hgPz x4, keepc (show Below wo2.heap.size wo2 _ from (below_drewed _ wo2)) hgPz x5, keepc (show Below wo2.heap.size wo2 _ from (below_drewed _ wo2)) hgPz x6, keepc (show Below wo2.heap.size wo2 _ from (below_drewed _ wo2)) hgPz x7, keepc (show Below wo2.heap.size wo2 _ from (below_drewed _ wo2)) hgPz x8, keepc (show Below wo2.heap.size wo2 _ from (below_drewed _ wo2)) hgPz x9, keepc (show Below wo2.heap.size wo2 _ from (below_drewed _ wo2)) hgPz x10, keepc (show Below wo2.heap.size wo2 _ from (below_drewed _ wo2)) hgPz x11, keepc (show Below wo2.heap.size wo2 _ from (below_drewed _ wo2)) he1z v0, keepc (show Below wo2.heap.size wo2 _ from (below_drewed _ wo2)) he1z v1, keepc (show Below wo2.heap.size wo2 _ from (below_drewed _ wo2)) hb5z y4⟩) (fun hHeld => ?_)
                clear hK K
                refine wpAnyH_ready (rs := [15]) (by kernel_rfl) (by simp) ?_
                refine AllReadyH.cons rfl (fun K hK => ?_) AllReadyH.nil
                go_simp
                clear hHeld
                refine hK.out _ _ (by first | with_reducible exact ⟨keepc (below_ad wo2 _) hgPz x2, keepc (below_ad wo2 _) hgPz x3, keepc (below_ad wo2 _) hgPz x4, keepc (below_ad wo2 _) hgPz x5, keepc (below_ad wo2 _) hgPz x6, keepc (below_ad wo2 _) hgPz x7, keepc (below_ad wo2 _) hgPz x8, keepc (below_ad wo2 _) hgPz x9, keepc (below_ad wo2 _) hgPz x10, keepc (below_ad wo2 _) hgPz x11, keepc (below_ad wo2 _) he1z v0, keepc (below_ad wo2 _) he1z v1, keepc (below_ad wo2 _) hb5z y4⟩ | with_reducible exact ⟨keepc (below_aad wo2 _ _) hgPz x2, keepc (below_aad wo2 _ _) hgPz x3, keepc (below_aad wo2 _ _) hgPz x4, keepc (below_aad wo2 _ _) hgPz x5, keepc (below_aad wo2 _ _) hgPz x6, keepc (below_aad wo2 _ _) hgPz x7, keepc (below_aad wo2 _ _) hgPz x8, keepc (below_aad wo2 _ _) hgPz x9, keepc (below_aad wo2 _ _) hgPz x10, keepc (below_aad wo2 _ _) hgPz x11, keepc (below_aad wo2 _ _) he1z v0, keepc (below_aad wo2 _ _) he1z v1, keepc (below_aad wo2 _ _) hb5z y4⟩ | exact ⟨keepc (show Below wo2.heap.size wo2 _ from (below_drewed _ wo2)) hgPz x2, keepc (show Below wo2.heap.size wo2 _ from (below_drewed _ wo2)) hgPz x3, keepc (show Below wo2.heap.size wo2 _ from (below_drewed _ wo2)) hgPz x4, keepc (show Below wo2.heap.size wo2 _ from (below_drewed _ wo2)) hgPz x5, keepc (show Below wo2.heap.size wo2 _ from (below_drewed _ wo2)) hgPz x6, keepc (show Below wo2.heap.size wo2 _ from (below_drewed _ wo2)) hgPz x7, keepc (show Below wo2.heap.size wo2 _ from (below_drewed _ wo2)) hgPz x8, keepc (show Below wo2.heap.size wo2 _ from (below_drewed _ wo2)) hgPz x9, keepc (show Below wo2.heap.size wo2 _ from (below_drewed _ wo2)) hgPz x10, keepc (show Below wo2.heap.size wo2 _ from (below_drewed _ wo2)) hgPz x11, keepc (show Below wo2.heap.size wo2 _ from (below_drewed _ wo2)) he1z v0, keepc (show Below wo2.heap.size wo2 _ from (below_drewed _ wo2)) he1z v1, keepc (show Below wo2.heap.size wo2 _ from (below_drewed _ wo2)) hb5z y4⟩) (fun hHeld => ?_)
                clear hK K
                refine wpAnyH_done (by kernel_rfl) ?_ _
                go_wp2_with fail
                go_meet
                first
                  | (refine ⟨wo2.heap.size, wo2.heap.size + 1, ?_, ?_, ?_⟩; (with_reducible rfl); (with_reducible rfl); exact ⟨blk_drew ((Blk.made _ _ _).alloc _), blk_drew (Blk.made' _ _ _ (by simp)), below_aad _ _ _⟩)
                  | (refine ⟨wo2.heap.size + 1, wo2.heap.size, ?_, ?_, ?_⟩; (with_reducible rfl); (with_reducible rfl); exact ⟨blk_drew (Blk.made' _ _ _ (by simp)), blk_drew ((Blk.made _ _ _).alloc _), below_aad _ _ _⟩)
              · go_simp
                clear hHeld
                refine hK.out _ _ (by first | with_reducible exact ⟨keepc (below_ad wo2 _) hgPz x2, keepc (below_ad wo2 _) hgPz x3, keepc (below_ad wo2 _) hgPz x4, keepc (below_ad wo2 _) hgPz x5, keepc (below_ad wo2 _) hgPz x6, keepc (below_ad wo2 _) hgPz x7, keepc (below_ad wo2 _) hgPz x8, keepc (below_ad wo2 _) hgPz x9, keepc (below_ad wo2 _) hgPz x10, keepc (below_ad wo2 _) hgPz x11, keepc (below_ad wo2 _) he1z v0, keepc (below_ad wo2 _) he1z v1, keepc (below_ad wo2 _) hb5z y4⟩ | with_reducible exact ⟨keepc (below_aad wo2 _ _) hgPz x2, keepc (below_aad wo2 _ _) hgPz x3, keepc (below_aad wo2 _ _) hgPz x4, keepc (below_aad wo2 _ _) hgPz x5, keepc (below_aad wo2 _ _) hgPz x6, keepc (below_aad wo2 _ _) hgPz x7, keepc (below_aad wo2 _ _) hgPz x8, keepc (below_aad wo2 _ _) hgPz x9, keepc (below_aad wo2 _ _) hgPz x10, keepc (below_aad wo2 _ _) hgPz x11, keepc (below_aad wo2 _ _) he1z v0, keepc (below_aad wo2 _ _) he1z v1, keepc (below_aad wo2 _ _) hb5z y4⟩ | exact ⟨keepc (show Below wo2.heap.size wo2 _ from (below_drewed _ wo2)) hgPz x2, keepc (show Below wo2.heap.size wo2 _ from (below_drewed _ wo2)) hgPz x3, keepc (show Below wo2.heap.size wo2 _ from (below_drewed _ wo2)) hgPz x4, keepc (show Below wo2.heap.size wo2 _ from (below_drewed _ wo2)) hgPz x5, keepc (show Below wo2.heap.size wo2 _ from (below_drewed _ wo2)) hgPz x6, keepc (show Below wo2.heap.size wo2 _ from (below_drewed _ wo2)) hgPz x7, keepc (show Below wo2.heap.size wo2 _ from (below_drewed _ wo2)) hgPz x8, keepc (show Below wo2.heap.size wo2 _ from (below_drewed _ wo2)) hgPz x9, keepc (show Below wo2.heap.size wo2 _ from (below_drewed _ wo2)) hgPz x10, keepc (show Below wo2.heap.size wo2 _ from (below_drewed _ wo2)) hgPz x11, keepc (show Below wo2.heap.size wo2 _ from (below_drewed _ wo2)) he1z v0, keepc (show Below wo2.heap.size wo2 _ from (below_drewed _ wo2)) he1z v1, keepc (show Below wo2.heap.size wo2 _ from (below_drewed _ wo2)) hb5z y4⟩) (fun hHeld => ?_)
                clear hK K
                refine wpAnyH_ready (rs := [12]) (by kernel_rfl) (by simp) ?_
                refine AllReadyH.cons rfl (fun K hK => ?_) AllReadyH.nil
                go_simp
                clear hHeld
                refine hK.out _ _ (by first | with_reducible exact ⟨keepc (below_ad wo2 _) hgPz x2, keepc (below_ad wo2 _) hgPz x3, keepc (below_ad wo2 _) hgPz x4, keepc (below_ad wo2 _) hgPz x5, keepc (below_ad wo2 _) hgPz x6, keepc (below_ad wo2 _) hgPz x7, keepc (below_ad wo2 _) hgPz x8, keepc (below_ad wo2 _) hgPz x9, keepc (below_ad wo2 _) hgPz x10, keepc (below_ad wo2 _) hgPz x11, keepc (below_ad wo2 _) he1z v0, keepc (below_ad wo2 _) he1z v1, keepc (below_ad wo2 _) hb5z y4⟩ | with_reducible exact ⟨keepc (below_aad wo2 _ _) hgPz x2, keepc (below_aad wo2 _ _) hgPz x3, keepc (below_aad wo2 _ _) hgPz x4, keepc (below_aad wo2 _ _) hgPz x5, keepc (below_aad wo2 _ _) hgPz x6, keepc (below_aad wo2 _ _) hgPz x7, keepc (below_aad wo2 _ _) hgPz x8, keepc (below_aad wo2 _ _) hgPz x9, keepc (below_aad wo2 _ _) hgPz x10, keepc (below_aad wo2 _ _) hgPz x11, keepc (below_aad wo2 _ _) he1z v0, keepc (below_aad wo2 _ _) he1z v1, keepc (below_aad wo2 _ _) hb5z y4⟩ | exact ⟨keepc (show Below wo2.heap.size wo2 _ from (below_drewed _ wo2)) hgPz x2, keepc (show Below wo2.heap.size wo2 _ from (below_drewed _ wo2)) hgPz x3, keepc (show Below wo2.heap.size wo2 _ from (below_drewed _ wo2)) hgPz x4, keepc (show Below wo2.heap.size wo2 _ from (below_drewed _ wo2)) hgPz x5, keepc (show Below wo2.heap.size wo2 _ from (below_drewed _ wo2)) hgPz x6, keepc (show Below wo2.heap.size wo2 _ from (below_drewed _ wo2)) hgPz x7, keepc (show Below wo2.heap.size wo2 _ from (below_drewed _ wo2)) hgPz x8, keepc (show Below wo2.heap.size wo2 _ from (below_drewed _ wo2)) hgPz x9, keepc (show Below wo2.heap.size wo2 _ from (below_drewed _ wo2)) hgPz x10, keepc (show Below wo2.heap.size wo2 _ from (below_drewed _ wo2)) hgPz x11, keepc (show Below wo2.heap.size wo2 _ from (below_drewed _ wo2)) he1z v0, keepc (show Below wo2.heap.size wo2 _ from (below_drewed _ wo2)) he1z v1, keepc (show Below wo2.heap.size wo2 _ from (below_drewed _ wo2)) hb5z y4⟩) (fun hHeld => ?_)
                clear hK K
                refine wpAnyH_ready (rs := [14]) (by kernel_rfl) (by simp) ?_
                refine AllReadyH.cons rfl (fun K hK => ?_) AllReadyH.nil
                go_simp
                clear hHeld
                refine hK.out _ _ (by first | with_reducible exact ⟨keepc (below_ad wo2 _) hgPz x2, keepc (below_ad wo2 _) hgPz x3, keepc (below_ad wo2 _) hgPz x4, keepc (below_ad wo2 _) hgPz x5, keepc (below_ad wo2 _) hgPz x6, keepc (below_ad wo2 _) hgPz x7, keepc (below_ad wo2 _) hgPz x8, keepc (below_ad wo2 _) hgPz x9, keepc (below_ad wo2 _) hgPz x10, keepc (below_ad wo2 _) hgPz x11, keepc (below_ad wo2 _) he1z v0, keepc (below_ad wo2 _) he1z v1, keepc (below_ad wo2 _) hb5z y4⟩ | with_reducible exact ⟨keepc (below_aad wo2 _ _) hgPz x2, keepc (below_aad wo2 _ _) hgPz x3, keepc (below_aad wo2 _ _) hgPz x4, keepc (below_aad wo2 _ _) hgPz x5, keepc (below_aad wo2 _ _) hgPz x6, keepc (below_aad wo2 _ _) hgPz x7, keepc (below_aad wo2 _ _) hgPz x8, keepc (below_aad wo2 _ _) hgPz x9, keepc (below_aad wo2 _ _) hgPz x10, keepc (below_aad wo2 _ _) hgPz x11, keepc (below_aad wo2 _ _) he1z v0, keepc (below_aad wo2 _ _) he1z v1, keepc (below_aad wo2 _ _) hb5z y4⟩ | exact ⟨keepc (show Below wo2.heap.size wo2 _ from (below_drewed _ wo2)) hgPz x2, keepc (show Below wo2.heap.size wo2 _ from (below_drewed _ wo2)) hgPz x3, keepc (show Below wo2.heap.size wo2 _ from (below_drewed _ wo2)) hgPz x4, keepc (show Below wo2.heap.size wo2 _ from (below_drewed _ wo2)) hgPz x5, keepc (show Below wo2.heap.size wo2 _ from (below_drewed _ wo2)) hgPz x6, keepc (show Below wo2.heap.size wo2 _ from (below_drewed _ wo2)) hgPz x7, keepc (show Below wo2.heap.size wo2 _ from (below_drewed _ wo2)) hgPz x8, keepc (show Below wo2.heap.size wo2 _ from (below_drewed _ wo2)) hgPz x9, keepc (show Below wo2.heap.size wo2 _ from (below_drewed _ wo2)) hgPz x10, keepc (show Below wo2.heap.size wo2 _ from (below_drewed _ wo2)) hgPz x11, keepc (show Below wo2.heap.size wo2 _ from (below_drewed _ wo2)) he1z v0, keepc (show Below wo2.heap.size wo2 _ from (below_drewed _ wo2)) he1z v1, keepc (show Below wo2.heap.size wo2 _ from (below_drewed _ wo2)) hb5z y4⟩) (fun hHeld => ?_)
                clear hK K
                refine wpAnyH_ready (rs := [15]) (by kernel_rfl) (by simp) ?_
                refine AllReadyH.cons rfl (fun K hK => ?_) AllReadyH.nil
                go_simp
                clear hHeld
                refine hK.out _ _ (by first | with_reducible exact ⟨keepc (below_ad wo2 _) hgPz x2, keepc (below_ad wo2 _) hgPz x3, keepc (below_ad wo2 _) hgPz x4, keepc (below_ad wo2 _) hgPz x5, keepc (below_ad wo2 _) hgPz x6, keepc (below_ad wo2 _) hgPz x7, keepc (below_ad wo2 _) hgPz x8, keepc (below_ad wo2 _) hgPz x9, keepc (below_ad wo2 _) hgPz x10, keepc (below_ad wo2 _) hgPz x11, keepc (below_ad wo2 _) he1z v0, keepc (below_ad wo2 _) he1z v1, keepc (below_ad wo2 _) hb5z y4⟩ | with_reducible exact ⟨keepc (below_aad wo2 _ _) hgPz x2, keepc (below_aad wo2 _ _) hgPz x3, keepc (below_aad wo2 _ _) hgPz x4, keepc (below_aad wo2 _ _) hgPz x5, keepc (below_aad wo2 _ _) hgPz x6, keepc (below_aad wo2 _ _) hgPz x7, keepc (below_aad wo2 _ _) hgPz x8, keepc (below_aad wo2 _ _) hgPz x9, keepc (below_aad wo2 _ _) hgPz x10, keepc (below_aad wo2 _ _) hgPz x11, keepc (below_aad wo2 _ _) he1z v0, keepc (below_aad wo2 _ _) he1z v1, keepc (below_aad wo2 _ _) hb5z y4⟩ | exact ⟨keepc (show Below wo2.heap.size wo2 _ from (below_drewed _ wo2)) hgPz x2, keepc (show Below wo2.heap.size wo2 _ from (below_drewed _ wo2)) hgPz x3, keepc (show Below wo2.heap.size wo2 _ from (below_drewed _ wo2)) hgPz x4, keepc (show Below wo2.heap.size wo2 _ from (below_drewed _ wo2)) hgPz x5, keepc (show Below wo2.heap.size wo2 _ from (below_drewed _ wo2)) hgPz x6, keepc (show Below wo2.heap.size wo2 _ from (below_drewed _ wo2)) hgPz x7, keepc (show Below wo2.heap.size wo2 _ from (below_drewed _ wo2)) hgPz x8, keepc (show Below wo2.heap.size wo2 _ from (below_drewed _ wo2)) hgPz x9, keepc (show Below wo2.heap.size wo2 _ from (below_drewed _ wo2)) hgPz x10, keepc (show Below wo2.heap.size wo2 _ from (below_drewed _ wo2)) hgPz x11, keepc (show Below wo2.heap.size wo2 _ from (below_drewed _ wo2)) he1z v0, keepc (show Below wo2.heap.size wo2 _ from (below_drewed _ wo2)) he1z v1, keepc (show Below wo2.heap.size wo2 _ from (below_drewed _ wo2)) hb5z y4⟩) (fun hHeld => ?_)
                clear hK K
                refine wpAnyH_done (by kernel_rfl) ?_ _
                go_wp2_with fail
                go_meet
                first
                  | (refine ⟨wo2.heap.size, wo2.heap.size + 1, ?_, ?_, ?_⟩; (with_reducible rfl); (with_reducible rfl); exact ⟨blk_drew ((Blk.made _ _ _).alloc _), blk_drew (Blk.made' _ _ _ (by simp)), below_aad _ _ _⟩)
                  | (refine ⟨wo2.heap.size + 1, wo2.heap.size, ?_, ?_, ?_⟩; (with_reducible rfl); (with_reducible rfl); exact ⟨blk_drew (Blk.made' _ _ _ (by simp)), blk_drew ((Blk.made _ _ _).alloc _), below_aad _ _ _⟩)
            case rest =>
              obtain ⟨gr, gp, rfl, rfl, hgr, hgp, hbc⟩ := hcut
              obtain ⟨wm, rfl⟩ : ∃ wm : World, wm = wc := ⟨_, rfl⟩
              have GP := Lib.hid hgp
              have BM := Lib.hid hbc
              have hgrz := hgr.size
              have hgpz := hgp.size
              have hzm : wo2.heap.size ≤ wm.heap.size := hbc.size
              have XA0 := Lib.hid xa0
              have XA1 := Lib.hid xa1
              have hgPz2 : gP < wo2.heap.size := World.block_lt_of_cell? _ _ xa0
              have y4r : wm.cell? ⟨gr, 4, none⟩ = some (.int .i64 (j : Int)) := hgr.cell 4
              have y6r : wm.cell? ⟨gr, 6, none⟩ = some (.int .i64 (t : Int)) := hgr.cell 6
              clear hgr hgp hbc xa0 xa1 x2 x3 x4 x5 x6 x7 x8 x9 x10 x11 v0 v1 y4
              go_upto_region 23 with fail
              go_cut [16] from 136 to 190 (fun bv wx => bv = .bool (!keep i) ∧ Below wm.heap.size wm wx)
              case first =>
                by_cases hin : j < n
                · have e1 : decide (j < n) = true := decide_eq_true hin
                  have e2 : decide ((j : Int) < (n : Int)) = true := decide_eq_true (by omega)
                  have e3 : (j : Int) < (n : Int) := by omega
                  have e4 : (0 : Int) ≤ (j : Int) := by omega
                  have e5 : (0 : Int) ≤ (t : Int) := by omega
                  obtain ⟨x, hx⟩ : ∃ x, ls[j]? = some x := ⟨_, List.getElem?_eq_getElem (by rw [HLS.out]; exact hin)⟩
                  have HX := Lib.hid hx
                  obtain ⟨b, off, hBe, hbw, hbc⟩ : ∃ b off, B = some ⟨b, off, none⟩ ∧ b < w.heap.size ∧ ∀ (i x : Nat), ls[i]? = some x → w.cell? ⟨b, off + i, none⟩ = some (.int .u16 (x : Int)) := (by rcases HB.out with h | h; omega; exact h)
                  subst hBe
                  have z0 : wm.cell? ⟨b, off + j, none⟩ = some (.int .u16 (x : Int)) := keepc BM.out (Nat.lt_of_lt_of_le (Nat.lt_of_lt_of_le hbw B1.out.size) BWW.out.size) (keepc BWW.out (Nat.lt_of_lt_of_le hbw B1.out.size) (keepc B1.out hbw (hbc j x hx)))
                  clear hx hbc
                  have KX := Lib.hid (show (!keep i) = lackB x t by rw [← HK.out]; unfold keepF; rw [HJ.out, HT.out, HX.out, HLS.out, e1]; simp)
                  cases hbv : lackB x t with
                  | true =>
                    have hbt : (bits .and .u16 ((x : Int) / 2 ^ min (IntKind.u64.wrap (t : Int)).toNat 16) 1 == 1) = true := hbv
                    refine wp_region_held_drew (S := (fun w' => w'.cell? ⟨gr, 4, none⟩ = some (.int .i64 (j : Int)) ∧ w'.cell? ⟨gr, 6, none⟩ = some (.int .i64 (t : Int)) ∧ w'.cell? ⟨b, off + j, none⟩ = some (.int .u16 (x : Int)))) (by kernel_rfl) ⟨y4r, y6r, z0⟩ (fun hHeld => ?_)
                    refine wpAnyH_take (i := 0) (v := ?vQ23n50) (take_list rfl) (by kernel_rfl) (by kernel_rfl) (by kernel_rfl) (fun _ _ _ h => h) (Or.inl ⟨by rfl, ?hyQ23n50⟩) (by assumption) ?restQ23n50
                    case hyQ23n50 => (intro w hSw; (try dsimp only at hSw); go_simp <;> with_reducible rfl)
                    try simp only [Act.put, List.setIfInBounds_toArray, List.set_cons_zero, List.set_cons_succ]
                    refine wpAnyH_take (i := 1) (v := ?vQ23n51) (take_list rfl) (by kernel_rfl) (by kernel_rfl) (by kernel_rfl) (fun _ _ _ h => h) (Or.inl ⟨by rfl, ?hyQ23n51⟩) (by assumption) ?restQ23n51
                    case hyQ23n51 => (intro w hSw; (try dsimp only at hSw); go_simp <;> with_reducible rfl)
                    try simp only [Act.put, List.setIfInBounds_toArray, List.set_cons_zero, List.set_cons_succ]
                    refine wpAnyH_take (i := 2) (v := ?vQ23n52) (take_list rfl) (by kernel_rfl) (by kernel_rfl) (by kernel_rfl) (fun _ _ _ h => h) (Or.inl ⟨by rfl, ?hyQ23n52⟩) (by assumption) ?restQ23n52
                    case hyQ23n52 => (intro w hSw; (try dsimp only at hSw); go_simp <;> with_reducible rfl)
                    try simp only [Act.put, List.setIfInBounds_toArray, List.set_cons_zero, List.set_cons_succ]
                    refine wpAnyH_take (i := 3) (v := ?vQ23n53) (take_list rfl) (by kernel_rfl) (by kernel_rfl) (by kernel_rfl) (fun _ _ _ h => h) (Or.inl ⟨by rfl, ?hyQ23n53⟩) (by assumption) ?restQ23n53
                    case hyQ23n53 => (intro w hSw; (try dsimp only at hSw); go_simp <;> with_reducible rfl)
                    try simp only [Act.put, List.setIfInBounds_toArray, List.set_cons_zero, List.set_cons_succ]
                    refine wpAnyH_take (i := 4) (v := ?vQ23n54) (take_list rfl) (by kernel_rfl) (by kernel_rfl) (by kernel_rfl) (fun _ _ _ h => h) (Or.inl ⟨by rfl, ?hyQ23n54⟩) (by assumption) ?restQ23n54
                    case hyQ23n54 => (intro w hSw; (try dsimp only at hSw); go_simp <;> with_reducible rfl)
                    try simp only [Act.put, List.setIfInBounds_toArray, List.set_cons_zero, List.set_cons_succ]
                    refine wpAnyH_take (i := 5) (v := ?vQ23n55) (take_list rfl) (by kernel_rfl) (by kernel_rfl) (by kernel_rfl) (fun _ _ _ h => h) (Or.inl ⟨by rfl, ?hyQ23n55⟩) (by assumption) ?restQ23n55
                    case hyQ23n55 => (intro w hSw; (try dsimp only at hSw); go_simp <;> with_reducible rfl)
                    try simp only [Act.put, List.setIfInBounds_toArray, List.set_cons_zero, List.set_cons_succ]
                    refine wpAnyH_take (i := 6) (v := ?vQ23n56) (take_list rfl) (by kernel_rfl) (by kernel_rfl) (by kernel_rfl) (fun _ _ _ h => h) (Or.inl ⟨by rfl, ?hyQ23n56⟩) (by assumption) ?restQ23n56
                    case hyQ23n56 => (intro w hSw; (try dsimp only at hSw); go_simp <;> with_reducible rfl)
                    try simp only [Act.put, List.setIfInBounds_toArray, List.set_cons_zero, List.set_cons_succ]
                    refine wpAnyH_take (i := 7) (v := ?vQ23n57) (take_list rfl) (by kernel_rfl) (by kernel_rfl) (by kernel_rfl) (fun _ _ _ h => h) (Or.inl ⟨by rfl, ?hyQ23n57⟩) (by assumption) ?restQ23n57
                    case hyQ23n57 => (intro w hSw; (try dsimp only at hSw); go_simp <;> with_reducible rfl)
                    try simp only [Act.put, List.setIfInBounds_toArray, List.set_cons_zero, List.set_cons_succ]
                    refine wpAnyH_take (i := 8) (v := ?vQ23n58) (take_list rfl) (by kernel_rfl) (by kernel_rfl) (by kernel_rfl) (fun _ _ _ h => h) (Or.inl ⟨by rfl, ?hyQ23n58⟩) (by assumption) ?restQ23n58
                    case hyQ23n58 => (intro w hSw; (try dsimp only at hSw); go_simp <;> with_reducible rfl)
                    try simp only [Act.put, List.setIfInBounds_toArray, List.set_cons_zero, List.set_cons_succ]
                    refine wpAnyH_take (i := 9) (v := ?vQ23n59) (take_list rfl) (by kernel_rfl) (by kernel_rfl) (by kernel_rfl) (fun _ _ _ h => h) (Or.inl ⟨by rfl, ?hyQ23n59⟩) (by assumption) ?restQ23n59
                    case hyQ23n59 => (intro w hSw; (try dsimp only at hSw); go_simp <;> with_reducible rfl)
                    try simp only [Act.put, List.setIfInBounds_toArray, List.set_cons_zero, List.set_cons_succ]
                    refine wpAnyH_take (i := 10) (v := ?vQ23n510) (take_list rfl) (by kernel_rfl) (by kernel_rfl) (by kernel_rfl) (fun _ _ _ h => h) (Or.inl ⟨by rfl, ?hyQ23n510⟩) (by assumption) ?restQ23n510
                    case hyQ23n510 => (intro w hSw; (try dsimp only at hSw); go_simp <;> with_reducible rfl)
                    try simp only [Act.put, List.setIfInBounds_toArray, List.set_cons_zero, List.set_cons_succ]
                    refine wpAnyH_take (i := 11) (v := ?vQ23n511) (take_list rfl) (by kernel_rfl) (by kernel_rfl) (by kernel_rfl) (fun _ _ _ h => h) (Or.inl ⟨by rfl, ?hyQ23n511⟩) (by assumption) ?restQ23n511
                    case hyQ23n511 => (intro w hSw; (try dsimp only at hSw); go_simp <;> with_reducible rfl)
                    try simp only [Act.put, List.setIfInBounds_toArray, List.set_cons_zero, List.set_cons_succ]
                    refine wpAnyH_take (i := 12) (v := ?vQ23n512) (take_list rfl) (by kernel_rfl) (by kernel_rfl) (by kernel_rfl) (fun _ _ _ h => h) (Or.inl ⟨by rfl, ?hyQ23n512⟩) (by assumption) ?restQ23n512
                    case hyQ23n512 => (intro w hSw; (try dsimp only at hSw); go_simp <;> with_reducible rfl)
                    try simp only [Act.put, List.setIfInBounds_toArray, List.set_cons_zero, List.set_cons_succ]
                    refine wpAnyH_take (i := 13) (v := ?vQ23n513) (take_list rfl) (by kernel_rfl) (by kernel_rfl) (by kernel_rfl) (fun _ _ _ h => h) (Or.inl ⟨by rfl, ?hyQ23n513⟩) (by assumption) ?restQ23n513
                    case hyQ23n513 => (intro w hSw; (try dsimp only at hSw); go_simp <;> with_reducible rfl)
                    try simp only [Act.put, List.setIfInBounds_toArray, List.set_cons_zero, List.set_cons_succ]
                    refine wpAnyH_take (i := 14) (v := ?vQ23n514) (take_list rfl) (by kernel_rfl) (by kernel_rfl) (by kernel_rfl) (fun _ _ _ h => h) (Or.inl ⟨by rfl, ?hyQ23n514⟩) (by assumption) ?restQ23n514
                    case hyQ23n514 => (intro w hSw; (try dsimp only at hSw); go_simp <;> with_reducible rfl)
                    try simp only [Act.put, List.setIfInBounds_toArray, List.set_cons_zero, List.set_cons_succ]
                    refine wpAnyH_take (i := 15) (v := ?vQ23n515) (take_list rfl) (by kernel_rfl) (by kernel_rfl) (by kernel_rfl) (fun _ _ _ h => h) (Or.inl ⟨by rfl, ?hyQ23n515⟩) (by assumption) ?restQ23n515
                    case hyQ23n515 => (intro w hSw; (try dsimp only at hSw); go_simp <;> with_reducible rfl)
                    try simp only [Act.put, List.setIfInBounds_toArray, List.set_cons_zero, List.set_cons_succ]
                    refine wpAnyH_take (i := 16) (v := ?vQ23n516) (take_list rfl) (by kernel_rfl) (by kernel_rfl) (by kernel_rfl) (fun _ _ _ h => h) (Or.inl ⟨by rfl, ?hyQ23n516⟩) (by assumption) ?restQ23n516
                    case hyQ23n516 => (intro w hSw; (try dsimp only at hSw); go_simp <;> with_reducible rfl)
                    try simp only [Act.put, List.setIfInBounds_toArray, List.set_cons_zero, List.set_cons_succ]
                    refine wpAnyH_take (i := 17) (v := ?vQ23n517) (take_list rfl) (by kernel_rfl) (by kernel_rfl) (by kernel_rfl) (fun _ _ _ h => h) (Or.inl ⟨by rfl, ?hyQ23n517⟩) (by assumption) ?restQ23n517
                    case hyQ23n517 => (intro w hSw; (try dsimp only at hSw); go_simp <;> with_reducible rfl)
                    try simp only [Act.put, List.setIfInBounds_toArray, List.set_cons_zero, List.set_cons_succ]
                    refine wpAnyH_take (i := 18) (v := ?vQ23n518) (take_list rfl) (by kernel_rfl) (by kernel_rfl) (by kernel_rfl) (fun _ _ _ h => h) (Or.inl ⟨by rfl, ?hyQ23n518⟩) (by assumption) ?restQ23n518
                    case hyQ23n518 => (intro w hSw; (try dsimp only at hSw); go_simp <;> with_reducible rfl)
                    try simp only [Act.put, List.setIfInBounds_toArray, List.set_cons_zero, List.set_cons_succ]
                    refine wpAnyH_done (by kernel_rfl) ?_ _
                    go_wp2_with fail
                    go_meet
                    first | exact ⟨by rw [KX.out, hbv], below_drewed _ _⟩ | ((repeat apply Exists.intro); exact ⟨⟨by rw [KX.out, hbv], below_drewed _ _⟩, rfl⟩)
                  | false =>
                    have hbt : (bits .and .u16 ((x : Int) / 2 ^ min (IntKind.u64.wrap (t : Int)).toNat 16) 1 == 1) = false := hbv
                    refine wp_region_held_drew (S := (fun w' => w'.cell? ⟨gr, 4, none⟩ = some (.int .i64 (j : Int)) ∧ w'.cell? ⟨gr, 6, none⟩ = some (.int .i64 (t : Int)) ∧ w'.cell? ⟨b, off + j, none⟩ = some (.int .u16 (x : Int)))) (by kernel_rfl) ⟨y4r, y6r, z0⟩ (fun hHeld => ?_)
                    refine wpAnyH_take (i := 0) (v := ?vQ23n60) (take_list rfl) (by kernel_rfl) (by kernel_rfl) (by kernel_rfl) (fun _ _ _ h => h) (Or.inl ⟨by rfl, ?hyQ23n60⟩) (by assumption) ?restQ23n60
                    case hyQ23n60 => (intro w hSw; (try dsimp only at hSw); go_simp <;> with_reducible rfl)
                    try simp only [Act.put, List.setIfInBounds_toArray, List.set_cons_zero, List.set_cons_succ]
                    refine wpAnyH_take (i := 1) (v := ?vQ23n61) (take_list rfl) (by kernel_rfl) (by kernel_rfl) (by kernel_rfl) (fun _ _ _ h => h) (Or.inl ⟨by rfl, ?hyQ23n61⟩) (by assumption) ?restQ23n61
                    case hyQ23n61 => (intro w hSw; (try dsimp only at hSw); go_simp <;> with_reducible rfl)
                    try simp only [Act.put, List.setIfInBounds_toArray, List.set_cons_zero, List.set_cons_succ]
                    refine wpAnyH_take (i := 2) (v := ?vQ23n62) (take_list rfl) (by kernel_rfl) (by kernel_rfl) (by kernel_rfl) (fun _ _ _ h => h) (Or.inl ⟨by rfl, ?hyQ23n62⟩) (by assumption) ?restQ23n62
                    case hyQ23n62 => (intro w hSw; (try dsimp only at hSw); go_simp <;> with_reducible rfl)
                    try simp only [Act.put, List.setIfInBounds_toArray, List.set_cons_zero, List.set_cons_succ]
                    refine wpAnyH_take (i := 3) (v := ?vQ23n63) (take_list rfl) (by kernel_rfl) (by kernel_rfl) (by kernel_rfl) (fun _ _ _ h => h) (Or.inl ⟨by rfl, ?hyQ23n63⟩) (by assumption) ?restQ23n63
                    case hyQ23n63 => (intro w hSw; (try dsimp only at hSw); go_simp <;> with_reducible rfl)
                    try simp only [Act.put, List.setIfInBounds_toArray, List.set_cons_zero, List.set_cons_succ]
                    refine wpAnyH_take (i := 4) (v := ?vQ23n64) (take_list rfl) (by kernel_rfl) (by kernel_rfl) (by kernel_rfl) (fun _ _ _ h => h) (Or.inl ⟨by rfl, ?hyQ23n64⟩) (by assumption) ?restQ23n64
                    case hyQ23n64 => (intro w hSw; (try dsimp only at hSw); go_simp <;> with_reducible rfl)
                    try simp only [Act.put, List.setIfInBounds_toArray, List.set_cons_zero, List.set_cons_succ]
                    refine wpAnyH_take (i := 5) (v := ?vQ23n65) (take_list rfl) (by kernel_rfl) (by kernel_rfl) (by kernel_rfl) (fun _ _ _ h => h) (Or.inl ⟨by rfl, ?hyQ23n65⟩) (by assumption) ?restQ23n65
                    case hyQ23n65 => (intro w hSw; (try dsimp only at hSw); go_simp <;> with_reducible rfl)
                    try simp only [Act.put, List.setIfInBounds_toArray, List.set_cons_zero, List.set_cons_succ]
                    refine wpAnyH_take (i := 6) (v := ?vQ23n66) (take_list rfl) (by kernel_rfl) (by kernel_rfl) (by kernel_rfl) (fun _ _ _ h => h) (Or.inl ⟨by rfl, ?hyQ23n66⟩) (by assumption) ?restQ23n66
                    case hyQ23n66 => (intro w hSw; (try dsimp only at hSw); go_simp <;> with_reducible rfl)
                    try simp only [Act.put, List.setIfInBounds_toArray, List.set_cons_zero, List.set_cons_succ]
                    refine wpAnyH_take (i := 7) (v := ?vQ23n67) (take_list rfl) (by kernel_rfl) (by kernel_rfl) (by kernel_rfl) (fun _ _ _ h => h) (Or.inl ⟨by rfl, ?hyQ23n67⟩) (by assumption) ?restQ23n67
                    case hyQ23n67 => (intro w hSw; (try dsimp only at hSw); go_simp <;> with_reducible rfl)
                    try simp only [Act.put, List.setIfInBounds_toArray, List.set_cons_zero, List.set_cons_succ]
                    refine wpAnyH_take (i := 8) (v := ?vQ23n68) (take_list rfl) (by kernel_rfl) (by kernel_rfl) (by kernel_rfl) (fun _ _ _ h => h) (Or.inl ⟨by rfl, ?hyQ23n68⟩) (by assumption) ?restQ23n68
                    case hyQ23n68 => (intro w hSw; (try dsimp only at hSw); go_simp <;> with_reducible rfl)
                    try simp only [Act.put, List.setIfInBounds_toArray, List.set_cons_zero, List.set_cons_succ]
                    refine wpAnyH_take (i := 9) (v := ?vQ23n69) (take_list rfl) (by kernel_rfl) (by kernel_rfl) (by kernel_rfl) (fun _ _ _ h => h) (Or.inl ⟨by rfl, ?hyQ23n69⟩) (by assumption) ?restQ23n69
                    case hyQ23n69 => (intro w hSw; (try dsimp only at hSw); go_simp <;> with_reducible rfl)
                    try simp only [Act.put, List.setIfInBounds_toArray, List.set_cons_zero, List.set_cons_succ]
                    refine wpAnyH_take (i := 10) (v := ?vQ23n610) (take_list rfl) (by kernel_rfl) (by kernel_rfl) (by kernel_rfl) (fun _ _ _ h => h) (Or.inl ⟨by rfl, ?hyQ23n610⟩) (by assumption) ?restQ23n610
                    case hyQ23n610 => (intro w hSw; (try dsimp only at hSw); go_simp <;> with_reducible rfl)
                    try simp only [Act.put, List.setIfInBounds_toArray, List.set_cons_zero, List.set_cons_succ]
                    refine wpAnyH_take (i := 11) (v := ?vQ23n611) (take_list rfl) (by kernel_rfl) (by kernel_rfl) (by kernel_rfl) (fun _ _ _ h => h) (Or.inl ⟨by rfl, ?hyQ23n611⟩) (by assumption) ?restQ23n611
                    case hyQ23n611 => (intro w hSw; (try dsimp only at hSw); go_simp <;> with_reducible rfl)
                    try simp only [Act.put, List.setIfInBounds_toArray, List.set_cons_zero, List.set_cons_succ]
                    refine wpAnyH_take (i := 12) (v := ?vQ23n612) (take_list rfl) (by kernel_rfl) (by kernel_rfl) (by kernel_rfl) (fun _ _ _ h => h) (Or.inl ⟨by rfl, ?hyQ23n612⟩) (by assumption) ?restQ23n612
                    case hyQ23n612 => (intro w hSw; (try dsimp only at hSw); go_simp <;> with_reducible rfl)
                    try simp only [Act.put, List.setIfInBounds_toArray, List.set_cons_zero, List.set_cons_succ]
                    refine wpAnyH_take (i := 13) (v := ?vQ23n613) (take_list rfl) (by kernel_rfl) (by kernel_rfl) (by kernel_rfl) (fun _ _ _ h => h) (Or.inl ⟨by rfl, ?hyQ23n613⟩) (by assumption) ?restQ23n613
                    case hyQ23n613 => (intro w hSw; (try dsimp only at hSw); go_simp <;> with_reducible rfl)
                    try simp only [Act.put, List.setIfInBounds_toArray, List.set_cons_zero, List.set_cons_succ]
                    refine wpAnyH_take (i := 14) (v := ?vQ23n614) (take_list rfl) (by kernel_rfl) (by kernel_rfl) (by kernel_rfl) (fun _ _ _ h => h) (Or.inl ⟨by rfl, ?hyQ23n614⟩) (by assumption) ?restQ23n614
                    case hyQ23n614 => (intro w hSw; (try dsimp only at hSw); go_simp <;> with_reducible rfl)
                    try simp only [Act.put, List.setIfInBounds_toArray, List.set_cons_zero, List.set_cons_succ]
                    refine wpAnyH_take (i := 15) (v := ?vQ23n615) (take_list rfl) (by kernel_rfl) (by kernel_rfl) (by kernel_rfl) (fun _ _ _ h => h) (Or.inl ⟨by rfl, ?hyQ23n615⟩) (by assumption) ?restQ23n615
                    case hyQ23n615 => (intro w hSw; (try dsimp only at hSw); go_simp <;> with_reducible rfl)
                    try simp only [Act.put, List.setIfInBounds_toArray, List.set_cons_zero, List.set_cons_succ]
                    refine wpAnyH_take (i := 16) (v := ?vQ23n616) (take_list rfl) (by kernel_rfl) (by kernel_rfl) (by kernel_rfl) (fun _ _ _ h => h) (Or.inl ⟨by rfl, ?hyQ23n616⟩) (by assumption) ?restQ23n616
                    case hyQ23n616 => (intro w hSw; (try dsimp only at hSw); go_simp <;> with_reducible rfl)
                    try simp only [Act.put, List.setIfInBounds_toArray, List.set_cons_zero, List.set_cons_succ]
                    refine wpAnyH_take (i := 17) (v := ?vQ23n617) (take_list rfl) (by kernel_rfl) (by kernel_rfl) (by kernel_rfl) (fun _ _ _ h => h) (Or.inl ⟨by rfl, ?hyQ23n617⟩) (by assumption) ?restQ23n617
                    case hyQ23n617 => (intro w hSw; (try dsimp only at hSw); go_simp <;> with_reducible rfl)
                    try simp only [Act.put, List.setIfInBounds_toArray, List.set_cons_zero, List.set_cons_succ]
                    refine wpAnyH_take (i := 18) (v := ?vQ23n618) (take_list rfl) (by kernel_rfl) (by kernel_rfl) (by kernel_rfl) (fun _ _ _ h => h) (Or.inl ⟨by rfl, ?hyQ23n618⟩) (by assumption) ?restQ23n618
                    case hyQ23n618 => (intro w hSw; (try dsimp only at hSw); go_simp <;> with_reducible rfl)
                    try simp only [Act.put, List.setIfInBounds_toArray, List.set_cons_zero, List.set_cons_succ]
                    refine wpAnyH_done (by kernel_rfl) ?_ _
                    go_wp2_with fail
                    go_meet
                    first | exact ⟨by rw [KX.out, hbv], below_drewed _ _⟩ | ((repeat apply Exists.intro); exact ⟨⟨by rw [KX.out, hbv], below_drewed _ _⟩, rfl⟩)
                · have e1 : decide (j < n) = false := decide_eq_false hin
                  have e2 : decide ((j : Int) < (n : Int)) = false := decide_eq_false (by omega)
                  have e3 : ¬ (j : Int) < (n : Int) := by omega
                  have KX := Lib.hid (show (!keep i) = false by rw [← HK.out]; unfold keepF; rw [HJ.out, HLS.out, e1]; simp)
                  skip
                  refine wp_region_held_drew (S := (fun w' => w'.cell? ⟨gr, 4, none⟩ = some (.int .i64 (j : Int)))) (by kernel_rfl) y4r (fun hHeld => ?_)
                  refine wpAnyH_take (i := 0) (v := ?vQ23n70) (take_list rfl) (by kernel_rfl) (by kernel_rfl) (by kernel_rfl) (fun _ _ _ h => h) (Or.inl ⟨by rfl, ?hyQ23n70⟩) (by assumption) ?restQ23n70
                  case hyQ23n70 => (intro w hSw; (try dsimp only at hSw); go_simp <;> with_reducible rfl)
                  try simp only [Act.put, List.setIfInBounds_toArray, List.set_cons_zero, List.set_cons_succ]
                  refine wpAnyH_take (i := 1) (v := ?vQ23n71) (take_list rfl) (by kernel_rfl) (by kernel_rfl) (by kernel_rfl) (fun _ _ _ h => h) (Or.inl ⟨by rfl, ?hyQ23n71⟩) (by assumption) ?restQ23n71
                  case hyQ23n71 => (intro w hSw; (try dsimp only at hSw); go_simp <;> with_reducible rfl)
                  try simp only [Act.put, List.setIfInBounds_toArray, List.set_cons_zero, List.set_cons_succ]
                  refine wpAnyH_take (i := 2) (v := ?vQ23n72) (take_list rfl) (by kernel_rfl) (by kernel_rfl) (by kernel_rfl) (fun _ _ _ h => h) (Or.inl ⟨by rfl, ?hyQ23n72⟩) (by assumption) ?restQ23n72
                  case hyQ23n72 => (intro w hSw; (try dsimp only at hSw); go_simp <;> with_reducible rfl)
                  try simp only [Act.put, List.setIfInBounds_toArray, List.set_cons_zero, List.set_cons_succ]
                  refine wpAnyH_take (i := 3) (v := ?vQ23n73) (take_list rfl) (by kernel_rfl) (by kernel_rfl) (by kernel_rfl) (fun _ _ _ h => h) (Or.inl ⟨by rfl, ?hyQ23n73⟩) (by assumption) ?restQ23n73
                  case hyQ23n73 => (intro w hSw; (try dsimp only at hSw); go_simp <;> with_reducible rfl)
                  try simp only [Act.put, List.setIfInBounds_toArray, List.set_cons_zero, List.set_cons_succ]
                  refine wpAnyH_take (i := 4) (v := ?vQ23n74) (take_list rfl) (by kernel_rfl) (by kernel_rfl) (by kernel_rfl) (fun _ _ _ h => h) (Or.inl ⟨by rfl, ?hyQ23n74⟩) (by assumption) ?restQ23n74
                  case hyQ23n74 => (intro w hSw; (try dsimp only at hSw); go_simp <;> with_reducible rfl)
                  try simp only [Act.put, List.setIfInBounds_toArray, List.set_cons_zero, List.set_cons_succ]
                  refine wpAnyH_take (i := 5) (v := ?vQ23n75) (take_list rfl) (by kernel_rfl) (by kernel_rfl) (by kernel_rfl) (fun _ _ _ h => h) (Or.inl ⟨by rfl, ?hyQ23n75⟩) (by assumption) ?restQ23n75
                  case hyQ23n75 => (intro w hSw; (try dsimp only at hSw); go_simp <;> with_reducible rfl)
                  try simp only [Act.put, List.setIfInBounds_toArray, List.set_cons_zero, List.set_cons_succ]
                  refine wpAnyH_take (i := 6) (v := undef) (take_list rfl) (by kernel_rfl) (by kernel_rfl) (by kernel_rfl) (fun _ _ _ h => h) (Or.inr ⟨by rfl, rfl⟩) (by assumption) ?_
                  try simp only [Act.put, List.setIfInBounds_toArray, List.set_cons_zero, List.set_cons_succ]
                  refine wpAnyH_take (i := 7) (v := undef) (take_list rfl) (by kernel_rfl) (by kernel_rfl) (by kernel_rfl) (fun _ _ _ h => h) (Or.inr ⟨by rfl, rfl⟩) (by assumption) ?_
                  try simp only [Act.put, List.setIfInBounds_toArray, List.set_cons_zero, List.set_cons_succ]
                  refine wpAnyH_take (i := 8) (v := undef) (take_list rfl) (by kernel_rfl) (by kernel_rfl) (by kernel_rfl) (fun _ _ _ h => h) (Or.inr ⟨by rfl, rfl⟩) (by assumption) ?_
                  try simp only [Act.put, List.setIfInBounds_toArray, List.set_cons_zero, List.set_cons_succ]
                  refine wpAnyH_take (i := 9) (v := undef) (take_list rfl) (by kernel_rfl) (by kernel_rfl) (by kernel_rfl) (fun _ _ _ h => h) (Or.inr ⟨by rfl, rfl⟩) (by assumption) ?_
                  try simp only [Act.put, List.setIfInBounds_toArray, List.set_cons_zero, List.set_cons_succ]
                  refine wpAnyH_take (i := 10) (v := undef) (take_list rfl) (by kernel_rfl) (by kernel_rfl) (by kernel_rfl) (fun _ _ _ h => h) (Or.inr ⟨by rfl, rfl⟩) (by assumption) ?_
                  try simp only [Act.put, List.setIfInBounds_toArray, List.set_cons_zero, List.set_cons_succ]
                  refine wpAnyH_take (i := 11) (v := undef) (take_list rfl) (by kernel_rfl) (by kernel_rfl) (by kernel_rfl) (fun _ _ _ h => h) (Or.inr ⟨by rfl, rfl⟩) (by assumption) ?_
                  try simp only [Act.put, List.setIfInBounds_toArray, List.set_cons_zero, List.set_cons_succ]
                  refine wpAnyH_take (i := 12) (v := undef) (take_list rfl) (by kernel_rfl) (by kernel_rfl) (by kernel_rfl) (fun _ _ _ h => h) (Or.inr ⟨by rfl, rfl⟩) (by assumption) ?_
                  try simp only [Act.put, List.setIfInBounds_toArray, List.set_cons_zero, List.set_cons_succ]
                  refine wpAnyH_take (i := 13) (v := undef) (take_list rfl) (by kernel_rfl) (by kernel_rfl) (by kernel_rfl) (fun _ _ _ h => h) (Or.inr ⟨by rfl, rfl⟩) (by assumption) ?_
                  try simp only [Act.put, List.setIfInBounds_toArray, List.set_cons_zero, List.set_cons_succ]
                  refine wpAnyH_take (i := 14) (v := undef) (take_list rfl) (by kernel_rfl) (by kernel_rfl) (by kernel_rfl) (fun _ _ _ h => h) (Or.inr ⟨by rfl, rfl⟩) (by assumption) ?_
                  try simp only [Act.put, List.setIfInBounds_toArray, List.set_cons_zero, List.set_cons_succ]
                  refine wpAnyH_take (i := 15) (v := undef) (take_list rfl) (by kernel_rfl) (by kernel_rfl) (by kernel_rfl) (fun _ _ _ h => h) (Or.inr ⟨by rfl, rfl⟩) (by assumption) ?_
                  try simp only [Act.put, List.setIfInBounds_toArray, List.set_cons_zero, List.set_cons_succ]
                  refine wpAnyH_take (i := 16) (v := undef) (take_list rfl) (by kernel_rfl) (by kernel_rfl) (by kernel_rfl) (fun _ _ _ h => h) (Or.inr ⟨by rfl, rfl⟩) (by assumption) ?_
                  try simp only [Act.put, List.setIfInBounds_toArray, List.set_cons_zero, List.set_cons_succ]
                  refine wpAnyH_take (i := 17) (v := ?vQ23n717) (take_list rfl) (by kernel_rfl) (by kernel_rfl) (by kernel_rfl) (fun _ _ _ h => h) (Or.inl ⟨by rfl, ?hyQ23n717⟩) (by assumption) ?restQ23n717
                  case hyQ23n717 => (intro w hSw; (try dsimp only at hSw); go_simp <;> with_reducible rfl)
                  try simp only [Act.put, List.setIfInBounds_toArray, List.set_cons_zero, List.set_cons_succ]
                  refine wpAnyH_take (i := 18) (v := ?vQ23n718) (take_list rfl) (by kernel_rfl) (by kernel_rfl) (by kernel_rfl) (fun _ _ _ h => h) (Or.inl ⟨by rfl, ?hyQ23n718⟩) (by assumption) ?restQ23n718
                  case hyQ23n718 => (intro w hSw; (try dsimp only at hSw); go_simp <;> with_reducible rfl)
                  try simp only [Act.put, List.setIfInBounds_toArray, List.set_cons_zero, List.set_cons_succ]
                  refine wpAnyH_done (by kernel_rfl) ?_ _
                  go_wp2_with fail
                  go_meet
                  first | exact ⟨by rw [KX.out], below_drewed _ _⟩ | ((repeat apply Exists.intro); exact ⟨⟨by rw [KX.out], below_drewed _ _⟩, rfl⟩)
              case rest =>
                obtain ⟨rfl, hbk⟩ := hcut
                have BK := Lib.hid (show Below wo2.heap.size wo2 wc from BM.out.trans (hbk.mono hzm))
                have g0 : wc.cell? ⟨gp, 0, none⟩ = some (.int .i64 pa) := keepc hbk hgpz (GP.out.cell 0)
                have g1 : wc.cell? ⟨gp, 1, none⟩ = some (.int .i64 pb) := keepc hbk hgpz (GP.out.cell 1)
                have a0 : wc.cell? ⟨gP, i * 12, none⟩ = some (.int .i64 (t : Int)) := keepc BK.out hgPz2 XA0.out
                have a1 : wc.cell? ⟨gP, i * 12 + 1, none⟩ = some (.int .i64 ((5 + j : Nat) : Int)) := keepc BK.out hgPz2 XA1.out
                clear y4r y6r hbk
                cases hk : keep i with
                | false =>
                  have ea : pa = 0 := by rw [← HPA.out]; unfold atF; rw [hk]; rfl
                  have eb : pb = 1024 := by rw [← HPB.out]; unfold atF; rw [hk]; rfl
                  subst ea eb
                  go_upto_region 24 with fail
                  refine wp_region_held_drew (S := (fun w' => w'.cell? ⟨gp, 0, none⟩ = some (.int .i64 0) ∧ w'.cell? ⟨gp, 1, none⟩ = some (.int .i64 1024) ∧ w'.cell? ⟨gP, i * 12, none⟩ = some (.int .i64 (t : Int)) ∧ w'.cell? ⟨gP, i * 12 + 1, none⟩ = some (.int .i64 ((5 + j : Nat) : Int)))) (by kernel_rfl) ⟨g0, g1, a0, a1⟩ (fun hHeld => ?_)
                  refine wpAnyH_take (i := 0) (v := ?vQ24n80) (take_list rfl) (by kernel_rfl) (by kernel_rfl) (by kernel_rfl) (fun _ _ _ h => h) (Or.inl ⟨by rfl, ?hyQ24n80⟩) (by assumption) ?restQ24n80
                  case hyQ24n80 => (intro w hSw; (try dsimp only at hSw); go_simp <;> with_reducible rfl)
                  try simp only [Act.put, List.setIfInBounds_toArray, List.set_cons_zero, List.set_cons_succ]
                  refine wpAnyH_take (i := 1) (v := ?vQ24n81) (take_list rfl) (by kernel_rfl) (by kernel_rfl) (by kernel_rfl) (fun _ _ _ h => h) (Or.inl ⟨by rfl, ?hyQ24n81⟩) (by assumption) ?restQ24n81
                  case hyQ24n81 => (intro w hSw; (try dsimp only at hSw); go_simp <;> with_reducible rfl)
                  try simp only [Act.put, List.setIfInBounds_toArray, List.set_cons_zero, List.set_cons_succ]
                  refine wpAnyH_take (i := 2) (v := ?vQ24n82) (take_list rfl) (by kernel_rfl) (by kernel_rfl) (by kernel_rfl) (fun _ _ _ h => h) (Or.inl ⟨by rfl, ?hyQ24n82⟩) (by assumption) ?restQ24n82
                  case hyQ24n82 => (intro w hSw; (try dsimp only at hSw); go_simp <;> with_reducible rfl)
                  try simp only [Act.put, List.setIfInBounds_toArray, List.set_cons_zero, List.set_cons_succ]
                  refine wpAnyH_take (i := 3) (v := ?vQ24n83) (take_list rfl) (by kernel_rfl) (by kernel_rfl) (by kernel_rfl) (fun _ _ _ h => h) (Or.inl ⟨by rfl, ?hyQ24n83⟩) (by assumption) ?restQ24n83
                  case hyQ24n83 => (intro w hSw; (try dsimp only at hSw); go_simp <;> with_reducible rfl)
                  try simp only [Act.put, List.setIfInBounds_toArray, List.set_cons_zero, List.set_cons_succ]
                  refine wpAnyH_take (i := 4) (v := ?vQ24n84) (take_list rfl) (by kernel_rfl) (by kernel_rfl) (by kernel_rfl) (fun _ _ _ h => h) (Or.inl ⟨by rfl, ?hyQ24n84⟩) (by assumption) ?restQ24n84
                  case hyQ24n84 => (intro w hSw; (try dsimp only at hSw); go_simp <;> with_reducible rfl)
                  try simp only [Act.put, List.setIfInBounds_toArray, List.set_cons_zero, List.set_cons_succ]
                  refine wpAnyH_take (i := 5) (v := ?vQ24n85) (take_list rfl) (by kernel_rfl) (by kernel_rfl) (by kernel_rfl) (fun _ _ _ h => h) (Or.inl ⟨by rfl, ?hyQ24n85⟩) (by assumption) ?restQ24n85
                  case hyQ24n85 => (intro w hSw; (try dsimp only at hSw); go_simp <;> with_reducible rfl)
                  try simp only [Act.put, List.setIfInBounds_toArray, List.set_cons_zero, List.set_cons_succ]
                  refine wpAnyH_take (i := 6) (v := ?vQ24n86) (take_list rfl) (by kernel_rfl) (by kernel_rfl) (by kernel_rfl) (fun _ _ _ h => h) (Or.inl ⟨by rfl, ?hyQ24n86⟩) (by assumption) ?restQ24n86
                  case hyQ24n86 => (intro w hSw; (try dsimp only at hSw); go_simp <;> with_reducible rfl)
                  try simp only [Act.put, List.setIfInBounds_toArray, List.set_cons_zero, List.set_cons_succ]
                  refine wpAnyH_take (i := 7) (v := ?vQ24n87) (take_list rfl) (by kernel_rfl) (by kernel_rfl) (by kernel_rfl) (fun _ _ _ h => h) (Or.inl ⟨by rfl, ?hyQ24n87⟩) (by assumption) ?restQ24n87
                  case hyQ24n87 => (intro w hSw; (try dsimp only at hSw); go_simp <;> with_reducible rfl)
                  try simp only [Act.put, List.setIfInBounds_toArray, List.set_cons_zero, List.set_cons_succ]
                  refine wpAnyH_take (i := 8) (v := ?vQ24n88) (take_list rfl) (by kernel_rfl) (by kernel_rfl) (by kernel_rfl) (fun _ _ _ h => h) (Or.inl ⟨by rfl, ?hyQ24n88⟩) (by assumption) ?restQ24n88
                  case hyQ24n88 => (intro w hSw; (try dsimp only at hSw); go_simp <;> with_reducible rfl)
                  try simp only [Act.put, List.setIfInBounds_toArray, List.set_cons_zero, List.set_cons_succ]
                  refine wpAnyH_take (i := 9) (v := ?vQ24n89) (take_list rfl) (by kernel_rfl) (by kernel_rfl) (by kernel_rfl) (fun _ _ _ h => h) (Or.inl ⟨by rfl, ?hyQ24n89⟩) (by assumption) ?restQ24n89
                  case hyQ24n89 => (intro w hSw; (try dsimp only at hSw); go_simp <;> with_reducible rfl)
                  try simp only [Act.put, List.setIfInBounds_toArray, List.set_cons_zero, List.set_cons_succ]
                  refine wpAnyH_take (i := 10) (v := ?vQ24n810) (take_list rfl) (by kernel_rfl) (by kernel_rfl) (by kernel_rfl) (fun _ _ _ h => h) (Or.inl ⟨by rfl, ?hyQ24n810⟩) (by assumption) ?restQ24n810
                  case hyQ24n810 => (intro w hSw; (try dsimp only at hSw); go_simp <;> with_reducible rfl)
                  try simp only [Act.put, List.setIfInBounds_toArray, List.set_cons_zero, List.set_cons_succ]
                  refine wpAnyH_take (i := 11) (v := ?vQ24n811) (take_list rfl) (by kernel_rfl) (by kernel_rfl) (by kernel_rfl) (fun _ _ _ h => h) (Or.inl ⟨by rfl, ?hyQ24n811⟩) (by assumption) ?restQ24n811
                  case hyQ24n811 => (intro w hSw; (try dsimp only at hSw); go_simp <;> with_reducible rfl)
                  try simp only [Act.put, List.setIfInBounds_toArray, List.set_cons_zero, List.set_cons_succ]
                  refine wpAnyH_take (i := 12) (v := ?vQ24n812) (take_list rfl) (by kernel_rfl) (by kernel_rfl) (by kernel_rfl) (fun _ _ _ h => h) (Or.inl ⟨by rfl, ?hyQ24n812⟩) (by assumption) ?restQ24n812
                  case hyQ24n812 => (intro w hSw; (try dsimp only at hSw); go_simp <;> with_reducible rfl)
                  try simp only [Act.put, List.setIfInBounds_toArray, List.set_cons_zero, List.set_cons_succ]
                  refine wpAnyH_take (i := 13) (v := ?vQ24n813) (take_list rfl) (by kernel_rfl) (by kernel_rfl) (by kernel_rfl) (fun _ _ _ h => h) (Or.inl ⟨by rfl, ?hyQ24n813⟩) (by assumption) ?restQ24n813
                  case hyQ24n813 => (intro w hSw; (try dsimp only at hSw); go_simp <;> with_reducible rfl)
                  try simp only [Act.put, List.setIfInBounds_toArray, List.set_cons_zero, List.set_cons_succ]
                  refine wpAnyH_take (i := 14) (v := ?vQ24n814) (take_list rfl) (by kernel_rfl) (by kernel_rfl) (by kernel_rfl) (fun _ _ _ h => h) (Or.inl ⟨by rfl, ?hyQ24n814⟩) (by assumption) ?restQ24n814
                  case hyQ24n814 => (intro w hSw; (try dsimp only at hSw); go_simp <;> with_reducible rfl)
                  try simp only [Act.put, List.setIfInBounds_toArray, List.set_cons_zero, List.set_cons_succ]
                  refine wpAnyH_take (i := 15) (v := undef) (take_list rfl) (by kernel_rfl) (by kernel_rfl) (by kernel_rfl) (fun _ _ _ h => h) (Or.inr ⟨by rfl, rfl⟩) (by assumption) ?_
                  try simp only [Act.put, List.setIfInBounds_toArray, List.set_cons_zero, List.set_cons_succ]
                  refine wpAnyH_take (i := 16) (v := undef) (take_list rfl) (by kernel_rfl) (by kernel_rfl) (by kernel_rfl) (fun _ _ _ h => h) (Or.inr ⟨by rfl, rfl⟩) (by assumption) ?_
                  try simp only [Act.put, List.setIfInBounds_toArray, List.set_cons_zero, List.set_cons_succ]
                  refine wpAnyH_take (i := 17) (v := undef) (take_list rfl) (by kernel_rfl) (by kernel_rfl) (by kernel_rfl) (fun _ _ _ h => h) (Or.inr ⟨by rfl, rfl⟩) (by assumption) ?_
                  try simp only [Act.put, List.setIfInBounds_toArray, List.set_cons_zero, List.set_cons_succ]
                  refine wpAnyH_take (i := 18) (v := undef) (take_list rfl) (by kernel_rfl) (by kernel_rfl) (by kernel_rfl) (fun _ _ _ h => h) (Or.inr ⟨by rfl, rfl⟩) (by assumption) ?_
                  try simp only [Act.put, List.setIfInBounds_toArray, List.set_cons_zero, List.set_cons_succ]
                  refine wpAnyH_take (i := 19) (v := undef) (take_list rfl) (by kernel_rfl) (by kernel_rfl) (by kernel_rfl) (fun _ _ _ h => h) (Or.inr ⟨by rfl, rfl⟩) (by assumption) ?_
                  try simp only [Act.put, List.setIfInBounds_toArray, List.set_cons_zero, List.set_cons_succ]
                  refine wpAnyH_take (i := 20) (v := undef) (take_list rfl) (by kernel_rfl) (by kernel_rfl) (by kernel_rfl) (fun _ _ _ h => h) (Or.inr ⟨by rfl, rfl⟩) (by assumption) ?_
                  try simp only [Act.put, List.setIfInBounds_toArray, List.set_cons_zero, List.set_cons_succ]
                  refine wpAnyH_take (i := 21) (v := undef) (take_list rfl) (by kernel_rfl) (by kernel_rfl) (by kernel_rfl) (fun _ _ _ h => h) (Or.inr ⟨by rfl, rfl⟩) (by assumption) ?_
                  try simp only [Act.put, List.setIfInBounds_toArray, List.set_cons_zero, List.set_cons_succ]
                  refine wpAnyH_take (i := 22) (v := undef) (take_list rfl) (by kernel_rfl) (by kernel_rfl) (by kernel_rfl) (fun _ _ _ h => h) (Or.inr ⟨by rfl, rfl⟩) (by assumption) ?_
                  try simp only [Act.put, List.setIfInBounds_toArray, List.set_cons_zero, List.set_cons_succ]
                  refine wpAnyH_take (i := 23) (v := undef) (take_list rfl) (by kernel_rfl) (by kernel_rfl) (by kernel_rfl) (fun _ _ _ h => h) (Or.inr ⟨by rfl, rfl⟩) (by assumption) ?_
                  try simp only [Act.put, List.setIfInBounds_toArray, List.set_cons_zero, List.set_cons_succ]
                  refine wpAnyH_take (i := 24) (v := undef) (take_list rfl) (by kernel_rfl) (by kernel_rfl) (by kernel_rfl) (fun _ _ _ h => h) (Or.inr ⟨by rfl, rfl⟩) (by assumption) ?_
                  try simp only [Act.put, List.setIfInBounds_toArray, List.set_cons_zero, List.set_cons_succ]
                  refine wpAnyH_take (i := 25) (v := undef) (take_list rfl) (by kernel_rfl) (by kernel_rfl) (by kernel_rfl) (fun _ _ _ h => h) (Or.inr ⟨by rfl, rfl⟩) (by assumption) ?_
                  try simp only [Act.put, List.setIfInBounds_toArray, List.set_cons_zero, List.set_cons_succ]
                  refine wpAnyH_take (i := 26) (v := undef) (take_list rfl) (by kernel_rfl) (by kernel_rfl) (by kernel_rfl) (fun _ _ _ h => h) (Or.inr ⟨by rfl, rfl⟩) (by assumption) ?_
                  try simp only [Act.put, List.setIfInBounds_toArray, List.set_cons_zero, List.set_cons_succ]
                  refine wpAnyH_take (i := 27) (v := undef) (take_list rfl) (by kernel_rfl) (by kernel_rfl) (by kernel_rfl) (fun _ _ _ h => h) (Or.inr ⟨by rfl, rfl⟩) (by assumption) ?_
                  try simp only [Act.put, List.setIfInBounds_toArray, List.set_cons_zero, List.set_cons_succ]
                  refine wpAnyH_take (i := 28) (v := undef) (take_list rfl) (by kernel_rfl) (by kernel_rfl) (by kernel_rfl) (fun _ _ _ h => h) (Or.inr ⟨by rfl, rfl⟩) (by assumption) ?_
                  try simp only [Act.put, List.setIfInBounds_toArray, List.set_cons_zero, List.set_cons_succ]
                  refine wpAnyH_take (i := 29) (v := undef) (take_list rfl) (by kernel_rfl) (by kernel_rfl) (by kernel_rfl) (fun _ _ _ h => h) (Or.inr ⟨by rfl, rfl⟩) (by assumption) ?_
                  try simp only [Act.put, List.setIfInBounds_toArray, List.set_cons_zero, List.set_cons_succ]
                  refine wpAnyH_take (i := 30) (v := undef) (take_list rfl) (by kernel_rfl) (by kernel_rfl) (by kernel_rfl) (fun _ _ _ h => h) (Or.inr ⟨by rfl, rfl⟩) (by assumption) ?_
                  try simp only [Act.put, List.setIfInBounds_toArray, List.set_cons_zero, List.set_cons_succ]
                  refine wpAnyH_take (i := 31) (v := undef) (take_list rfl) (by kernel_rfl) (by kernel_rfl) (by kernel_rfl) (fun _ _ _ h => h) (Or.inr ⟨by rfl, rfl⟩) (by assumption) ?_
                  try simp only [Act.put, List.setIfInBounds_toArray, List.set_cons_zero, List.set_cons_succ]
                  refine wpAnyH_take (i := 32) (v := undef) (take_list rfl) (by kernel_rfl) (by kernel_rfl) (by kernel_rfl) (fun _ _ _ h => h) (Or.inr ⟨by rfl, rfl⟩) (by assumption) ?_
                  try simp only [Act.put, List.setIfInBounds_toArray, List.set_cons_zero, List.set_cons_succ]
                  refine wpAnyH_take (i := 33) (v := undef) (take_list rfl) (by kernel_rfl) (by kernel_rfl) (by kernel_rfl) (fun _ _ _ h => h) (Or.inr ⟨by rfl, rfl⟩) (by assumption) ?_
                  try simp only [Act.put, List.setIfInBounds_toArray, List.set_cons_zero, List.set_cons_succ]
                  refine wpAnyH_take (i := 34) (v := undef) (take_list rfl) (by kernel_rfl) (by kernel_rfl) (by kernel_rfl) (fun _ _ _ h => h) (Or.inr ⟨by rfl, rfl⟩) (by assumption) ?_
                  try simp only [Act.put, List.setIfInBounds_toArray, List.set_cons_zero, List.set_cons_succ]
                  refine wpAnyH_take (i := 35) (v := ?vQ24n835) (take_list rfl) (by kernel_rfl) (by kernel_rfl) (by kernel_rfl) (fun _ _ _ h => h) (Or.inl ⟨by rfl, ?hyQ24n835⟩) (by assumption) ?restQ24n835
                  case hyQ24n835 => (intro w hSw; (try dsimp only at hSw); go_simp <;> with_reducible rfl)
                  try simp only [Act.put, List.setIfInBounds_toArray, List.set_cons_zero, List.set_cons_succ]
                  refine wpAnyH_take (i := 36) (v := ?vQ24n836) (take_list rfl) (by kernel_rfl) (by kernel_rfl) (by kernel_rfl) (fun _ _ _ h => h) (Or.inl ⟨by rfl, ?hyQ24n836⟩) (by assumption) ?restQ24n836
                  case hyQ24n836 => (intro w hSw; (try dsimp only at hSw); go_simp <;> with_reducible rfl)
                  try simp only [Act.put, List.setIfInBounds_toArray, List.set_cons_zero, List.set_cons_succ]
                  refine wpAnyH_done (by kernel_rfl) ?_ _
                  go_wp2_with fail
                  go_roundw
                  case rel => first | exact ⟨i + 1, rfl, by omega, BL2.out.trans (show Below w5.heap.size wo2 wc.drew from (BK.out.mono hz6).trans (below_drewed _ _))⟩ | ((repeat apply Exists.intro); exact ⟨⟨i + 1, rfl, by omega, BL2.out.trans (show Below w5.heap.size wo2 wc.drew from (BK.out.mono hz6).trans (below_drewed _ _))⟩, rfl⟩)
                  case measure => (simp only [intOf]; omega)
                | true =>
                  have ea : pa = (t : Int) := by rw [← HPA.out]; unfold atF; rw [hk, if_pos rfl, HT.out]
                  have eb : pb = ((5 + j : Nat) : Int) := by rw [← HPB.out]; unfold atF; rw [hk, if_pos rfl, HJ.out]
                  subst ea eb
                  go_upto_region 24 with fail
                  refine wp_region_held_drew (S := (fun w' => w'.cell? ⟨gp, 0, none⟩ = some (.int .i64 (t : Int)) ∧ w'.cell? ⟨gp, 1, none⟩ = some (.int .i64 ((5 + j : Nat) : Int)) ∧ w'.cell? ⟨gP, i * 12, none⟩ = some (.int .i64 (t : Int)) ∧ w'.cell? ⟨gP, i * 12 + 1, none⟩ = some (.int .i64 ((5 + j : Nat) : Int)))) (by kernel_rfl) ⟨g0, g1, a0, a1⟩ (fun hHeld => ?_)
                  refine wpAnyH_take (i := 0) (v := ?vQ24n90) (take_list rfl) (by kernel_rfl) (by kernel_rfl) (by kernel_rfl) (fun _ _ _ h => h) (Or.inl ⟨by rfl, ?hyQ24n90⟩) (by assumption) ?restQ24n90
                  case hyQ24n90 => (intro w hSw; (try dsimp only at hSw); go_simp <;> with_reducible rfl)
                  try simp only [Act.put, List.setIfInBounds_toArray, List.set_cons_zero, List.set_cons_succ]
                  refine wpAnyH_take (i := 1) (v := ?vQ24n91) (take_list rfl) (by kernel_rfl) (by kernel_rfl) (by kernel_rfl) (fun _ _ _ h => h) (Or.inl ⟨by rfl, ?hyQ24n91⟩) (by assumption) ?restQ24n91
                  case hyQ24n91 => (intro w hSw; (try dsimp only at hSw); go_simp <;> with_reducible rfl)
                  try simp only [Act.put, List.setIfInBounds_toArray, List.set_cons_zero, List.set_cons_succ]
                  refine wpAnyH_take (i := 2) (v := undef) (take_list rfl) (by kernel_rfl) (by kernel_rfl) (by kernel_rfl) (fun _ _ _ h => h) (Or.inr ⟨by rfl, rfl⟩) (by assumption) ?_
                  try simp only [Act.put, List.setIfInBounds_toArray, List.set_cons_zero, List.set_cons_succ]
                  refine wpAnyH_take (i := 3) (v := undef) (take_list rfl) (by kernel_rfl) (by kernel_rfl) (by kernel_rfl) (fun _ _ _ h => h) (Or.inr ⟨by rfl, rfl⟩) (by assumption) ?_
                  try simp only [Act.put, List.setIfInBounds_toArray, List.set_cons_zero, List.set_cons_succ]
                  refine wpAnyH_take (i := 4) (v := undef) (take_list rfl) (by kernel_rfl) (by kernel_rfl) (by kernel_rfl) (fun _ _ _ h => h) (Or.inr ⟨by rfl, rfl⟩) (by assumption) ?_
                  try simp only [Act.put, List.setIfInBounds_toArray, List.set_cons_zero, List.set_cons_succ]
                  refine wpAnyH_take (i := 5) (v := undef) (take_list rfl) (by kernel_rfl) (by kernel_rfl) (by kernel_rfl) (fun _ _ _ h => h) (Or.inr ⟨by rfl, rfl⟩) (by assumption) ?_
                  try simp only [Act.put, List.setIfInBounds_toArray, List.set_cons_zero, List.set_cons_succ]
                  refine wpAnyH_take (i := 6) (v := undef) (take_list rfl) (by kernel_rfl) (by kernel_rfl) (by kernel_rfl) (fun _ _ _ h => h) (Or.inr ⟨by rfl, rfl⟩) (by assumption) ?_
                  try simp only [Act.put, List.setIfInBounds_toArray, List.set_cons_zero, List.set_cons_succ]
                  refine wpAnyH_take (i := 7) (v := undef) (take_list rfl) (by kernel_rfl) (by kernel_rfl) (by kernel_rfl) (fun _ _ _ h => h) (Or.inr ⟨by rfl, rfl⟩) (by assumption) ?_
                  try simp only [Act.put, List.setIfInBounds_toArray, List.set_cons_zero, List.set_cons_succ]
                  refine wpAnyH_take (i := 8) (v := undef) (take_list rfl) (by kernel_rfl) (by kernel_rfl) (by kernel_rfl) (fun _ _ _ h => h) (Or.inr ⟨by rfl, rfl⟩) (by assumption) ?_
                  try simp only [Act.put, List.setIfInBounds_toArray, List.set_cons_zero, List.set_cons_succ]
                  refine wpAnyH_take (i := 9) (v := undef) (take_list rfl) (by kernel_rfl) (by kernel_rfl) (by kernel_rfl) (fun _ _ _ h => h) (Or.inr ⟨by rfl, rfl⟩) (by assumption) ?_
                  try simp only [Act.put, List.setIfInBounds_toArray, List.set_cons_zero, List.set_cons_succ]
                  refine wpAnyH_take (i := 10) (v := ?vQ24n910) (take_list rfl) (by kernel_rfl) (by kernel_rfl) (by kernel_rfl) (fun _ _ _ h => h) (Or.inl ⟨by rfl, ?hyQ24n910⟩) (by assumption) ?restQ24n910
                  case hyQ24n910 => (intro w hSw; (try dsimp only at hSw); go_simp <;> with_reducible rfl)
                  try simp only [Act.put, List.setIfInBounds_toArray, List.set_cons_zero, List.set_cons_succ]
                  refine wpAnyH_take (i := 11) (v := ?vQ24n911) (take_list rfl) (by kernel_rfl) (by kernel_rfl) (by kernel_rfl) (fun _ _ _ h => h) (Or.inl ⟨by rfl, ?hyQ24n911⟩) (by assumption) ?restQ24n911
                  case hyQ24n911 => (intro w hSw; (try dsimp only at hSw); go_simp <;> with_reducible rfl)
                  try simp only [Act.put, List.setIfInBounds_toArray, List.set_cons_zero, List.set_cons_succ]
                  refine wpAnyH_take (i := 12) (v := ?vQ24n912) (take_list rfl) (by kernel_rfl) (by kernel_rfl) (by kernel_rfl) (fun _ _ _ h => h) (Or.inl ⟨by rfl, ?hyQ24n912⟩) (by assumption) ?restQ24n912
                  case hyQ24n912 => (intro w hSw; (try dsimp only at hSw); go_simp <;> with_reducible rfl)
                  try simp only [Act.put, List.setIfInBounds_toArray, List.set_cons_zero, List.set_cons_succ]
                  refine wpAnyH_take (i := 13) (v := ?vQ24n913) (take_list rfl) (by kernel_rfl) (by kernel_rfl) (by kernel_rfl) (fun _ _ _ h => h) (Or.inl ⟨by rfl, ?hyQ24n913⟩) (by assumption) ?restQ24n913
                  case hyQ24n913 => (intro w hSw; (try dsimp only at hSw); go_simp <;> with_reducible rfl)
                  try simp only [Act.put, List.setIfInBounds_toArray, List.set_cons_zero, List.set_cons_succ]
                  refine wpAnyH_take (i := 14) (v := ?vQ24n914) (take_list rfl) (by kernel_rfl) (by kernel_rfl) (by kernel_rfl) (fun _ _ _ h => h) (Or.inl ⟨by rfl, ?hyQ24n914⟩) (by assumption) ?restQ24n914
                  case hyQ24n914 => (intro w hSw; (try dsimp only at hSw); go_simp <;> with_reducible rfl)
                  try simp only [Act.put, List.setIfInBounds_toArray, List.set_cons_zero, List.set_cons_succ]
                  refine wpAnyH_take (i := 15) (v := ?vQ24n915) (take_list rfl) (by kernel_rfl) (by kernel_rfl) (by kernel_rfl) (fun _ _ _ h => h) (Or.inl ⟨by rfl, ?hyQ24n915⟩) (by assumption) ?restQ24n915
                  case hyQ24n915 => (intro w hSw; (try dsimp only at hSw); go_simp <;> with_reducible rfl)
                  try simp only [Act.put, List.setIfInBounds_toArray, List.set_cons_zero, List.set_cons_succ]
                  refine wpAnyH_take (i := 16) (v := ?vQ24n916) (take_list rfl) (by kernel_rfl) (by kernel_rfl) (by kernel_rfl) (fun _ _ _ h => h) (Or.inl ⟨by rfl, ?hyQ24n916⟩) (by assumption) ?restQ24n916
                  case hyQ24n916 => (intro w hSw; (try dsimp only at hSw); go_simp <;> with_reducible rfl)
                  try simp only [Act.put, List.setIfInBounds_toArray, List.set_cons_zero, List.set_cons_succ]
                  refine wpAnyH_take (i := 17) (v := ?vQ24n917) (take_list rfl) (by kernel_rfl) (by kernel_rfl) (by kernel_rfl) (fun _ _ _ h => h) (Or.inl ⟨by rfl, ?hyQ24n917⟩) (by assumption) ?restQ24n917
                  case hyQ24n917 => (intro w hSw; (try dsimp only at hSw); go_simp <;> with_reducible rfl)
                  try simp only [Act.put, List.setIfInBounds_toArray, List.set_cons_zero, List.set_cons_succ]
                  refine wpAnyH_take (i := 18) (v := ?vQ24n918) (take_list rfl) (by kernel_rfl) (by kernel_rfl) (by kernel_rfl) (fun _ _ _ h => h) (Or.inl ⟨by rfl, ?hyQ24n918⟩) (by assumption) ?restQ24n918
                  case hyQ24n918 => (intro w hSw; (try dsimp only at hSw); go_simp <;> with_reducible rfl)
                  try simp only [Act.put, List.setIfInBounds_toArray, List.set_cons_zero, List.set_cons_succ]
                  refine wpAnyH_take (i := 19) (v := ?vQ24n919) (take_list rfl) (by kernel_rfl) (by kernel_rfl) (by kernel_rfl) (fun _ _ _ h => h) (Or.inl ⟨by rfl, ?hyQ24n919⟩) (by assumption) ?restQ24n919
                  case hyQ24n919 => (intro w hSw; (try dsimp only at hSw); go_simp <;> with_reducible rfl)
                  try simp only [Act.put, List.setIfInBounds_toArray, List.set_cons_zero, List.set_cons_succ]
                  refine wpAnyH_take (i := 20) (v := ?vQ24n920) (take_list rfl) (by kernel_rfl) (by kernel_rfl) (by kernel_rfl) (fun _ _ _ h => h) (Or.inl ⟨by rfl, ?hyQ24n920⟩) (by assumption) ?restQ24n920
                  case hyQ24n920 => (intro w hSw; (try dsimp only at hSw); go_simp <;> with_reducible rfl)
                  try simp only [Act.put, List.setIfInBounds_toArray, List.set_cons_zero, List.set_cons_succ]
                  refine wpAnyH_take (i := 21) (v := ?vQ24n921) (take_list rfl) (by kernel_rfl) (by kernel_rfl) (by kernel_rfl) (fun _ _ _ h => h) (Or.inl ⟨by rfl, ?hyQ24n921⟩) (by assumption) ?restQ24n921
                  case hyQ24n921 => (intro w hSw; (try dsimp only at hSw); go_simp <;> with_reducible rfl)
                  try simp only [Act.put, List.setIfInBounds_toArray, List.set_cons_zero, List.set_cons_succ]
                  refine wpAnyH_take (i := 22) (v := ?vQ24n922) (take_list rfl) (by kernel_rfl) (by kernel_rfl) (by kernel_rfl) (fun _ _ _ h => h) (Or.inl ⟨by rfl, ?hyQ24n922⟩) (by assumption) ?restQ24n922
                  case hyQ24n922 => (intro w hSw; (try dsimp only at hSw); go_simp <;> with_reducible rfl)
                  try simp only [Act.put, List.setIfInBounds_toArray, List.set_cons_zero, List.set_cons_succ]
                  refine wpAnyH_take (i := 23) (v := ?vQ24n923) (take_list rfl) (by kernel_rfl) (by kernel_rfl) (by kernel_rfl) (fun _ _ _ h => h) (Or.inl ⟨by rfl, ?hyQ24n923⟩) (by assumption) ?restQ24n923
                  case hyQ24n923 => (intro w hSw; (try dsimp only at hSw); go_simp <;> with_reducible rfl)
                  try simp only [Act.put, List.setIfInBounds_toArray, List.set_cons_zero, List.set_cons_succ]
                  refine wpAnyH_take (i := 24) (v := ?vQ24n924) (take_list rfl) (by kernel_rfl) (by kernel_rfl) (by kernel_rfl) (fun _ _ _ h => h) (Or.inl ⟨by rfl, ?hyQ24n924⟩) (by assumption) ?restQ24n924
                  case hyQ24n924 => (intro w hSw; (try dsimp only at hSw); go_simp <;> with_reducible rfl)
                  try simp only [Act.put, List.setIfInBounds_toArray, List.set_cons_zero, List.set_cons_succ]
                  refine wpAnyH_take (i := 25) (v := ?vQ24n925) (take_list rfl) (by kernel_rfl) (by kernel_rfl) (by kernel_rfl) (fun _ _ _ h => h) (Or.inl ⟨by rfl, ?hyQ24n925⟩) (by assumption) ?restQ24n925
                  case hyQ24n925 => (intro w hSw; (try dsimp only at hSw); go_simp <;> with_reducible rfl)
                  try simp only [Act.put, List.setIfInBounds_toArray, List.set_cons_zero, List.set_cons_succ]
                  refine wpAnyH_take (i := 26) (v := ?vQ24n926) (take_list rfl) (by kernel_rfl) (by kernel_rfl) (by kernel_rfl) (fun _ _ _ h => h) (Or.inl ⟨by rfl, ?hyQ24n926⟩) (by assumption) ?restQ24n926
                  case hyQ24n926 => (intro w hSw; (try dsimp only at hSw); go_simp <;> with_reducible rfl)
                  try simp only [Act.put, List.setIfInBounds_toArray, List.set_cons_zero, List.set_cons_succ]
                  refine wpAnyH_take (i := 27) (v := ?vQ24n927) (take_list rfl) (by kernel_rfl) (by kernel_rfl) (by kernel_rfl) (fun _ _ _ h => h) (Or.inl ⟨by rfl, ?hyQ24n927⟩) (by assumption) ?restQ24n927
                  case hyQ24n927 => (intro w hSw; (try dsimp only at hSw); go_simp <;> with_reducible rfl)
                  try simp only [Act.put, List.setIfInBounds_toArray, List.set_cons_zero, List.set_cons_succ]
                  refine wpAnyH_take (i := 28) (v := ?vQ24n928) (take_list rfl) (by kernel_rfl) (by kernel_rfl) (by kernel_rfl) (fun _ _ _ h => h) (Or.inl ⟨by rfl, ?hyQ24n928⟩) (by assumption) ?restQ24n928
                  case hyQ24n928 => (intro w hSw; (try dsimp only at hSw); go_simp <;> with_reducible rfl)
                  try simp only [Act.put, List.setIfInBounds_toArray, List.set_cons_zero, List.set_cons_succ]
                  refine wpAnyH_take (i := 29) (v := ?vQ24n929) (take_list rfl) (by kernel_rfl) (by kernel_rfl) (by kernel_rfl) (fun _ _ _ h => h) (Or.inl ⟨by rfl, ?hyQ24n929⟩) (by assumption) ?restQ24n929
                  case hyQ24n929 => (intro w hSw; (try dsimp only at hSw); go_simp <;> with_reducible rfl)
                  try simp only [Act.put, List.setIfInBounds_toArray, List.set_cons_zero, List.set_cons_succ]
                  refine wpAnyH_take (i := 30) (v := ?vQ24n930) (take_list rfl) (by kernel_rfl) (by kernel_rfl) (by kernel_rfl) (fun _ _ _ h => h) (Or.inl ⟨by rfl, ?hyQ24n930⟩) (by assumption) ?restQ24n930
                  case hyQ24n930 => (intro w hSw; (try dsimp only at hSw); go_simp <;> with_reducible rfl)
                  try simp only [Act.put, List.setIfInBounds_toArray, List.set_cons_zero, List.set_cons_succ]
                  refine wpAnyH_take (i := 31) (v := ?vQ24n931) (take_list rfl) (by kernel_rfl) (by kernel_rfl) (by kernel_rfl) (fun _ _ _ h => h) (Or.inl ⟨by rfl, ?hyQ24n931⟩) (by assumption) ?restQ24n931
                  case hyQ24n931 => (intro w hSw; (try dsimp only at hSw); go_simp <;> with_reducible rfl)
                  try simp only [Act.put, List.setIfInBounds_toArray, List.set_cons_zero, List.set_cons_succ]
                  refine wpAnyH_take (i := 32) (v := ?vQ24n932) (take_list rfl) (by kernel_rfl) (by kernel_rfl) (by kernel_rfl) (fun _ _ _ h => h) (Or.inl ⟨by rfl, ?hyQ24n932⟩) (by assumption) ?restQ24n932
                  case hyQ24n932 => (intro w hSw; (try dsimp only at hSw); go_simp <;> with_reducible rfl)
                  try simp only [Act.put, List.setIfInBounds_toArray, List.set_cons_zero, List.set_cons_succ]
                  refine wpAnyH_take (i := 33) (v := ?vQ24n933) (take_list rfl) (by kernel_rfl) (by kernel_rfl) (by kernel_rfl) (fun _ _ _ h => h) (Or.inl ⟨by rfl, ?hyQ24n933⟩) (by assumption) ?restQ24n933
                  case hyQ24n933 => (intro w hSw; (try dsimp only at hSw); go_simp <;> with_reducible rfl)
                  try simp only [Act.put, List.setIfInBounds_toArray, List.set_cons_zero, List.set_cons_succ]
                  refine wpAnyH_take (i := 34) (v := ?vQ24n934) (take_list rfl) (by kernel_rfl) (by kernel_rfl) (by kernel_rfl) (fun _ _ _ h => h) (Or.inl ⟨by rfl, ?hyQ24n934⟩) (by assumption) ?restQ24n934
                  case hyQ24n934 => (intro w hSw; (try dsimp only at hSw); go_simp <;> with_reducible rfl)
                  try simp only [Act.put, List.setIfInBounds_toArray, List.set_cons_zero, List.set_cons_succ]
                  refine wpAnyH_take (i := 35) (v := ?vQ24n935) (take_list rfl) (by kernel_rfl) (by kernel_rfl) (by kernel_rfl) (fun _ _ _ h => h) (Or.inl ⟨by rfl, ?hyQ24n935⟩) (by assumption) ?restQ24n935
                  case hyQ24n935 => (intro w hSw; (try dsimp only at hSw); go_simp <;> with_reducible rfl)
                  try simp only [Act.put, List.setIfInBounds_toArray, List.set_cons_zero, List.set_cons_succ]
                  refine wpAnyH_take (i := 36) (v := ?vQ24n936) (take_list rfl) (by kernel_rfl) (by kernel_rfl) (by kernel_rfl) (fun _ _ _ h => h) (Or.inl ⟨by rfl, ?hyQ24n936⟩) (by assumption) ?restQ24n936
                  case hyQ24n936 => (intro w hSw; (try dsimp only at hSw); go_simp <;> with_reducible rfl)
                  try simp only [Act.put, List.setIfInBounds_toArray, List.set_cons_zero, List.set_cons_succ]
                  refine wpAnyH_done (by kernel_rfl) ?_ _
                  go_wp2_with fail
                  go_roundw
                  case rel => first | exact ⟨i + 1, rfl, by omega, BL2.out.trans (show Below w5.heap.size wo2 wc.drew from (BK.out.mono hz6).trans (below_drewed _ _))⟩ | ((repeat apply Exists.intro); exact ⟨⟨i + 1, rfl, by omega, BL2.out.trans (show Below w5.heap.size wo2 wc.drew from (BK.out.mono hz6).trans (below_drewed _ _))⟩, rfl⟩)
                  case measure => (simp only [intOf]; omega)
          · have d5 : decide (i < q * 10) = false := decide_eq_false hlt2
            have d6 : decide ((i : Int) < ((q * 10 : Nat) : Int)) = false := decide_eq_false (by omega)
            have d7 : decide ((i : Int) < (q : Int) * 10) = false := decide_eq_false (by omega)
            go_wp2_with (go_at_call 12; (refine (sAwake _).mono ?_; rintro e w6 ⟨rfl, hb6⟩; have BW6 := Lib.hid (show Below w.heap.size w w6 from B1.out.trans ((BWW.out.trans (hb6.mono BWW.out.size)).mono B1.out.size)); clear hb6))
            go_ret
            exact ⟨rfl, BW6.out⟩
end Go.Proofs.Ythceidacmeadkaa
