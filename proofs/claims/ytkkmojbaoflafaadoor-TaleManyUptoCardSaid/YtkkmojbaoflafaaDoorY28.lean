/- The steps of any text, or the first line that is none: TaleReads. No condition beyond those that each theorem states. -/
import Derived.Test.YtkkmojbaoflafaaDoorY13
import Derived.Test.YtkkmojbaoflafaaDoorY15
import Derived.Test.YtkkmojbaoflafaaDoorY27
namespace Go.Proofs.YtkkmojbaoflafaaDoor
open Go.RowKit Go.Shelf
attribute [local go_sem] Oper.semAt_some

def rdN : ReadV → Int
  | .bad n => n
  | _ => 0
def rdE : ReadV → Int
  | .ok _ => 0
  | .over => 16
  | .bad _ => 15
def rdL : ReadV → List StepV
  | .ok L => L
  | _ => []
theorem rsteps_nil (w : World) : RStepsAt w (.slice none 0 0) [] := ⟨[], rfl, World.ownsRow_nil _ _ _ _, fun p hp => (by cases hp)⟩
theorem read_any {w' : World} {o : ReadV} {e : Ending} (h : ReadTold o e w') : ∃ v, e = .returned (.tuple #[v, .int .i64 (rdN o), .int .i64 (rdE o)]) ∧ RStepsAt w' v (rdL o) := by
  cases o with
  | ok L =>
    obtain ⟨v, he, hs⟩ := h
    exact ⟨v, he, hs.of⟩
  | over => exact ⟨_, h, rsteps_nil _⟩
  | bad n => exact ⟨_, h, rsteps_nil _⟩
theorem rread_any {w' : World} {o : ReadV} {e : Ending} (h : RReadTold o e w') : ∃ v, e = .returned (.tuple #[v, .int .i64 (rdN o), .int .i64 (rdE o)]) ∧ RStepsAt w' v (rdL o) := by
  cases o with
  | ok L => exact h
  | over => exact ⟨_, h, rsteps_nil _⟩
  | bad n => exact ⟨_, h, rsteps_nil _⟩
theorem RStepsAt.below {w w' : World} {v : Value} {L : List StepV} (h : RStepsAt w v L) (hb : Below w.heap.size w w') : RStepsAt w' v L := by
  obtain ⟨PL, h1, h2, h3⟩ := h
  exact ⟨PL, h1, own_of_eq h2 (fun g hg => hb.block g (h2.lt g hg).2), fun p hp => (h3 p hp).below hb⟩
theorem RStepsAt.len {w : World} {v : Value} {L : List StepV} (h : RStepsAt w v L) : ∃ B c, v = .slice B L.length c := by
  obtain ⟨PL, h1, h2, h3⟩ := h
  exact own_form h2
/-- The i-th step, as the walk reads it. -/
theorem RStepsAt.at {w : World} {B : Option Addr} {n c i : Nat} {L : List StepV} {x : StepV} (h : RStepsAt w (.slice B n c) L) (hx : L[i]? = some x) :
    ∃ g A d, B = some ⟨g, 0, none⟩ ∧ n ≤ maxLen ∧ BytesIn w A x.data.length x.data ∧ ∀ q, q < 5 → w.cell? ⟨g, i * 5 + q, none⟩ = (stepCells x A d)[q]? := by
  obtain ⟨PL, h1, h2, h3⟩ := h
  subst h1
  rw [List.getElem?_map] at hx
  obtain ⟨p, hp, rfl⟩ := Option.map_eq_some_iff.1 hx
  have hi := (List.getElem?_eq_some_iff.1 hp).1
  obtain ⟨g, cap, hv⟩ := own_some h2 (by rw [List.length_map]; omega)
  injection hv with hB hn hc
  subst hB hn hc
  refine ⟨g, p.A, p.c, rfl, Nat.le_trans (own_cap h2).1 (own_cap h2).2, (h3 p (List.mem_of_getElem? hp)).bytes, fun q hq => ?_⟩
  have hr := RowAt.of_own h2
  have hg : (stepVals PL)[i * 5 + q]? = (stepCells p.x p.A p.c)[q]? := by
    unfold stepVals
    rw [flat_get (vals := fun p : StepP => (stepCells p.x p.A p.c).toList) (k := 5) (fun _ => rfl) hp hq]
    simp
  obtain ⟨u, hu⟩ : ∃ u, (stepCells p.x p.A p.c)[q]? = some u := ⟨_, Array.getElem?_eq_getElem (by show q < 5; exact hq)⟩
  rw [hu] at hg ⊢
  exact hr.cell hg
set_option maxHeartbeats 4000000 in
set_option maxRecDepth 100000 in
theorem reads_walk (s : Str) (w : World) (he : Env w) :
    Calls Tryd.prog 5 #[strV s] w fun e w' => e = .returned (.bool true) ∧ Below w.heap.size w w' := by
  have HE := Lib.hid he
  clear he
  by_cases hl : 20000 < s.length
  · have d1 : decide ((20000 : Int) < (s.length : Int)) = true := decide_eq_true (by omega)
    have d2 : (20000 : Int) < (s.length : Int) := by omega
    go_enter Tryd.func5, Tryd.ntmps5
    go_wp2_with (
      go_at_call 11
      refine (tAwake w HE.out).mono ?_
      rintro e w4 ⟨rfl, hb4⟩
      have B4 := Lib.hid hb4
      clear hb4)
    go_ret
    exact ⟨rfl, B4.out⟩
  have d1 : decide ((20000 : Int) < (s.length : Int)) = false := decide_eq_false (by omega)
  have d2 : ¬ (20000 : Int) < (s.length : Int) := by omega
  have T1 := Lib.hid (tRead s w HE.out (by omega))
  obtain ⟨L, hL⟩ : ∃ z, rdL (readT s) = z := ⟨_, rfl⟩
  obtain ⟨N, hN⟩ : ∃ z, rdN (readT s) = z := ⟨_, rfl⟩
  obtain ⟨E, hE⟩ : ∃ z, rdE (readT s) = z := ⟨_, rfl⟩
  obtain ⟨n, hn⟩ : ∃ n, L.length = n := ⟨_, rfl⟩
  have HSL : s.length ≤ 1000000000 := by omega
  have n1 : (N != N) = false := by simp
  have n2 : (E != E) = false := by simp
  go_enter Tryd.func5, Tryd.ntmps5
  go_upto_region 4 with (
    go_at_call 15
    refine T1.out.mono ?_
    rintro e w1 ⟨htold, hb1⟩
    obtain ⟨v1, rfl, hs1⟩ := read_any htold
    rw [hL] at hs1
    obtain ⟨B1, c1, rfl⟩ := hs1.len
    rw [hn] at hs1 ⊢
    rw [hN, hE]
    have S1 := Lib.hid hs1
    have W1 := Lib.hid hb1
    clear hb1 htold hs1)
  have T2 := Lib.hid (rRead s w1 HSL)
  clear d1 d2
  go_upto_region 5 with (
    go_at_call 16
    refine T2.out.mono ?_
    rintro e w2 ⟨htold, hb2⟩
    obtain ⟨v2, rfl, hs2⟩ := rread_any htold
    rw [hL] at hs2
    obtain ⟨B2, c2, rfl⟩ := hs2.len
    rw [hn] at hs2 ⊢
    rw [hN, hE]
    have S2 := Lib.hid hs2
    have S3 := Lib.hid (S1.out.below hb2)
    have W2 := Lib.hid (show Below w.heap.size w w2 from W1.out.trans (hb2.mono W1.out.size))
    clear hb2 htold hs2)
  have HN := Lib.hid hn
  clear T1 T2 hL hN hE hn S1 W1 hl
  go_upto_region 8 with fail
  go_loopw [9] (fun iv wr => ∃ i : Nat, iv = .int .i64 i ∧ i ≤ n ∧ Below w2.heap.size w2 wr) (fun iv _ => n - (intOf iv).toNat)
  case atStart => exact ⟨0, rfl, Nat.zero_le _, Below.refl _ _⟩
  case round =>
    obtain ⟨i, rfl, hin, hbl⟩ := hrel
    have BL := Lib.hid hbl
    have BW := Lib.hid (show Below w.heap.size w wr from W2.out.trans (hbl.mono W2.out.size))
    clear hbl
    by_cases hlt : i < n
    · obtain ⟨x, hx⟩ : ∃ x, L[i]? = some x := ⟨_, List.getElem?_eq_getElem (by rw [HN.out]; exact hlt)⟩
      obtain ⟨ga, A, d, rfl, hmx, hba, hca⟩ := (S3.out.below BL.out).at hx
      obtain ⟨gb, A', d', rfl, _, hbb, hcb⟩ := (S2.out.below BL.out).at hx
      have SM := Lib.hid (tSame x x A A' d d' wr.drew (hba.below (below_drew3 (Below.refl _ _))) (hbb.below (below_drew3 (Below.refl _ _))))
      rw [same_iff.2 rfl] at SM
      simp only [stepV] at SM
      have x0 : wr.cell? ⟨ga, i * 5, none⟩ = some (.int .i64 x.kind) := hca 0 (by omega)
      have x1 : wr.cell? ⟨ga, i * 5 + 1, none⟩ = some (.int .i64 x.a) := hca 1 (by omega)
      have x2 : wr.cell? ⟨ga, i * 5 + 2, none⟩ = some (.int .i64 x.b) := hca 2 (by omega)
      have x3 : wr.cell? ⟨ga, i * 5 + 3, none⟩ = some (strV x.key) := hca 3 (by omega)
      have x4 : wr.cell? ⟨ga, i * 5 + 4, none⟩ = some (.slice A x.data.length d) := hca 4 (by omega)
      have y0 : wr.cell? ⟨gb, i * 5, none⟩ = some (.int .i64 x.kind) := hcb 0 (by omega)
      have y1 : wr.cell? ⟨gb, i * 5 + 1, none⟩ = some (.int .i64 x.a) := hcb 1 (by omega)
      have y2 : wr.cell? ⟨gb, i * 5 + 2, none⟩ = some (.int .i64 x.b) := hcb 2 (by omega)
      have y3 : wr.cell? ⟨gb, i * 5 + 3, none⟩ = some (strV x.key) := hcb 3 (by omega)
      have y4 : wr.cell? ⟨gb, i * 5 + 4, none⟩ = some (.slice A' x.data.length d') := hcb 4 (by omega)
      have f1 : decide ((i : Int) < (n : Int)) = true := decide_eq_true (by omega)
      have f2 : (i : Int) < (n : Int) := by omega
      have f3 : (0 : Int) ≤ (i : Int) := by omega
      have p1 : IntKind.i64.wrap ((i : Int) + 1) = ((i + 1 : Nat) : Int) := by rw [IntWalk.i64_in _ (by simp only [maxLen] at hmx; omega)]; omega
      clear hx hba hca hbb hcb hmx
      go_upto_region 10 with fail
      go_region_law (
        go_simp
        go_at_call 13
        refine SM.out.mono ?_
        rintro e w3 ⟨rfl, hb3⟩
        have B3 := Lib.hid (below_of_drew hb3)
        clear hb3)
      all_goals
        go_wp2_with fail
        go_roundw
        case rel => exact ⟨i + 1, by simp, hlt, BL.out.trans ((show Below wr.heap.size wr _ from B3.out).mono BL.out.size)⟩
        case measure =>
          simp only [intOf]
          omega
    · have f1 : decide ((i : Int) < (n : Int)) = false := decide_eq_false (by omega)
      have f2 : ¬ (i : Int) < (n : Int) := by omega
      go_wp2_with (
        go_at_call 11
        refine (tAwake wr (HE.out.below BW.out)).mono ?_
        rintro e w4 ⟨rfl, hb4⟩
        have B4 := Lib.hid (show Below w.heap.size w w4 from BW.out.trans (hb4.mono BW.out.size))
        clear hb4)
      go_ret
      exact ⟨rfl, B4.out⟩
end Go.Proofs.YtkkmojbaoflafaaDoor
