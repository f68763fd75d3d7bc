/- The records that count: the iterator over them. No condition beyond those that each theorem states. -/
import Derived.Test.YthceidacmeadkaaS1
import Derived.Test.YthceidacmeadkaaSI1
namespace Go.Proofs.Ythceidacmeadkaa
open Go.RowKit
attribute [local go_sem] Oper.semAt_some

/-- A record that is found, where its bytes lie. -/
structure FoundP where
  cart : Int
  pos : Int
  r : RecV
  A : Option Addr
  c : Nat
def foundCells (p : FoundP) : Array Value := #[.int .i64 p.cart, .int .i64 p.pos, .int .i64 p.r.kind, .int .i64 p.r.cart, strV p.r.key, .int .i64 p.r.gen, .int .i64 p.r.group, .int .i64 p.r.groups, .int .i64 p.r.index, .int .i64 p.r.size, strV p.r.sum, .slice p.A p.r.data.length p.c]
/-- Records that come in. -/
def FoundsIn (w : World) (A : Option Addr) (n : Nat) (G : Nat → FoundP) : Prop := n = 0 ∨ ∃ b off, A = some ⟨b, off, none⟩ ∧ b < w.heap.size ∧ ∀ i, i < n → ∀ q u, (foundCells (G i))[q]? = some u → w.cell? ⟨b, off + i * 12 + q, none⟩ = some u
theorem FoundsIn.below {w w' : World} {A : Option Addr} {n : Nat} {G : Nat → FoundP} (h : FoundsIn w A n G) (hb : Below w.heap.size w w') : FoundsIn w' A n G :=
  h.imp id fun ⟨b, off, h1, h2, h3⟩ => ⟨b, off, h1, Nat.lt_of_lt_of_le h2 hb.size, fun i hi q u hu => keepc hb h2 (h3 i hi q u hu)⟩
def okF (p : FoundP) : Bool := decide (0 ≤ p.cart) && (decide (p.cart < 32) && (decide (0 ≤ p.pos) && (decide (p.pos < 1024) && goodV p.r)))
def sel (G : Nat → FoundP) (n : Nat) : List FoundP := ((List.range n).map G).filter okF
theorem sel_succ (G : Nat → FoundP) (i : Nat) : sel G (i + 1) = sel G i ++ (if okF (G i) then [G i] else []) := by
  unfold sel
  rw [List.range_succ, List.map_append, List.filter_append]
  congr 1
  simp [List.filter_cons]
theorem sel_no {G : Nat → FoundP} {i : Nat} (h : okF (G i) = false) : sel G (i + 1) = sel G i := by rw [sel_succ, h]; simp
theorem sel_yes {G : Nat → FoundP} {i : Nat} (h : okF (G i) = true) : sel G (i + 1) = sel G i ++ [G i] := by rw [sel_succ, h]; simp
theorem sel_le (G : Nat → FoundP) {i n : Nat} (h : i ≤ n) : sel G i <+: sel G n := by
  induction n with
  | zero =>
    rw [Nat.le_zero.1 h]
    exact List.prefix_rfl
  | succ n ih =>
    rcases Nat.lt_or_ge n i with h1 | h1
    · rw [show i = n + 1 by omega]
      exact List.prefix_rfl
    · exact (ih h1).trans (by rw [sel_succ]; exact List.prefix_append _ _)
theorem sel_pre (G : Nat → FoundP) {i n : Nat} (h : okF (G i) = true) (hi : i < n) : sel G i ++ [G i] <+: sel G n := by
  rw [← sel_yes h]
  exact sel_le G hi
def countsInv (b0 : Nat) (A : Option Addr) (n c : Nat) (G : Nat → FoundP) (W : World) : Prop := Blk W b0 22 #[.slice A n c] ∧ FoundsIn W A n G
section
set_option maxHeartbeats 8000000
set_option maxRecDepth 100000
theorem counts_it (b0 : Nat) (A : Option Addr) (n c : Nat) (G : Nat → FoundP) (hn : n ≤ 100000000) :
    Iterates 51 #[.pointer (some ⟨b0, 0, none⟩)] (fun p => #[.agg (foundCells p)]) (sel G n) (countsInv b0 A n c G) := by
  intro l J Jx W hJb hInv hY h0
  have JB := Lib.hid hJb
  have IV := Lib.hid hInv
  have HY := Lib.hid hY
  have H0 := Lib.hid h0
  have V0 := Lib.hid (hInv _ _ h0).1
  clear hJb hInv hY h0
  refine callsIn_of_wp Try.func51 rfl trivial ?_ rfl
  simp only [Try.ntmps51, List.size_toArray, List.length_cons, List.length_nil, Nat.reduceAdd, Nat.reduceSub, Array.replicate_succ, Array.replicate_zero, List.push_toArray, List.append_toArray, List.nil_append, List.cons_append]
  have k0 : W.cell? ⟨b0, 0, none⟩ = some (.slice A n c) := V0.out.cell 0
  gi_wp2
  gi_loopw [8] (fun v wr => ∃ i : Nat, v = .int .i64 i ∧ i ≤ n ∧ J (sel G i) wr) (fun v _ => n - (intOf v).toNat)
  case atStart => exact ⟨0, rfl, Nat.zero_le _, H0.out⟩
  case round =>
    obtain ⟨i, rfl, hin, hj⟩ := hrel
    have HJ := Lib.hid hj
    have hfi := (IV.out _ _ hj).2
    clear hj k0
    by_cases hlt : i < n
    · rcases hfi with h0 | ⟨b, off, rfl, hb, hF⟩
      · omega
      obtain ⟨p, hp⟩ : ∃ p, G i = p := ⟨_, rfl⟩
      have hc := hF i hlt
      rw [hp] at hc
      have HG := Lib.hid hp
      have x0 : wr.cell? ⟨b, off + i * 12, none⟩ = some (.int .i64 p.cart) := hc 0 _ rfl
      have x1 : wr.cell? ⟨b, off + i * 12 + 1, none⟩ = some (.int .i64 p.pos) := hc 1 _ rfl
      have x2 : wr.cell? ⟨b, off + i * 12 + 2, none⟩ = some (.int .i64 p.r.kind) := hc 2 _ rfl
      have x3 : wr.cell? ⟨b, off + i * 12 + 3, none⟩ = some (.int .i64 p.r.cart) := hc 3 _ rfl
      have x4 : wr.cell? ⟨b, off + i * 12 + 4, none⟩ = some (strV p.r.key) := hc 4 _ rfl
      have x5 : wr.cell? ⟨b, off + i * 12 + 5, none⟩ = some (.int .i64 p.r.gen) := hc 5 _ rfl
      have x6 : wr.cell? ⟨b, off + i * 12 + 6, none⟩ = some (.int .i64 p.r.group) := hc 6 _ rfl
      have x7 : wr.cell? ⟨b, off + i * 12 + 7, none⟩ = some (.int .i64 p.r.groups) := hc 7 _ rfl
      have x8 : wr.cell? ⟨b, off + i * 12 + 8, none⟩ = some (.int .i64 p.r.index) := hc 8 _ rfl
      have x9 : wr.cell? ⟨b, off + i * 12 + 9, none⟩ = some (.int .i64 p.r.size) := hc 9 _ rfl
      have x10 : wr.cell? ⟨b, off + i * 12 + 10, none⟩ = some (strV p.r.sum) := hc 10 _ rfl
      have x11 : wr.cell? ⟨b, off + i * 12 + 11, none⟩ = some (.slice p.A p.r.data.length p.c) := hc 11 _ rfl
      have f1 : decide ((i : Int) < (n : Int)) = true := decide_eq_true (by omega)
      have f2 : (i : Int) < (n : Int) := by omega
      have f3 : (0 : Int) ≤ (i : Int) := by omega
      have p1 : IntKind.i64.wrap ((i : Int) + 1) = ((i + 1 : Nat) : Int) := by rw [IntWalk.i64_in _ (by omega)]; omega
      have SG0 := fun w => sGood p.r p.A p.c w
      simp only [recV, recCells] at SG0
      clear hF hc hp
      obtain ⟨w4, hw4⟩ : ∃ z, wr.alloc (.cells (foundCells p) 39) = z := ⟨_, rfl⟩
      have X4 := Lib.hid (show Blk w4 wr.heap.size 39 (foundCells p) by rw [← hw4]; exact Blk.made _ _ _)
      have HJ4 := Lib.hid (show J (sel G i) w4 by rw [← hw4]; exact JB.out _ _ _ HJ.out ((Below.refl _ wr).alloc (Nat.le_refl _) _))
      simp only [foundCells] at hw4
      have y0 : w4.cell? ⟨wr.heap.size, 0, none⟩ = some (.int .i64 p.cart) := X4.out.cell 0
      have y1 : w4.cell? ⟨wr.heap.size, 1, none⟩ = some (.int .i64 p.pos) := X4.out.cell 1
      have y2 : w4.cell? ⟨wr.heap.size, 2, none⟩ = some (.int .i64 p.r.kind) := X4.out.cell 2
      have y3 : w4.cell? ⟨wr.heap.size, 3, none⟩ = some (.int .i64 p.r.cart) := X4.out.cell 3
      have y4 : w4.cell? ⟨wr.heap.size, 4, none⟩ = some (strV p.r.key) := X4.out.cell 4
      have y5 : w4.cell? ⟨wr.heap.size, 5, none⟩ = some (.int .i64 p.r.gen) := X4.out.cell 5
      have y6 : w4.cell? ⟨wr.heap.size, 6, none⟩ = some (.int .i64 p.r.group) := X4.out.cell 6
      have y7 : w4.cell? ⟨wr.heap.size, 7, none⟩ = some (.int .i64 p.r.groups) := X4.out.cell 7
      have y8 : w4.cell? ⟨wr.heap.size, 8, none⟩ = some (.int .i64 p.r.index) := X4.out.cell 8
      have y9 : w4.cell? ⟨wr.heap.size, 9, none⟩ = some (.int .i64 p.r.size) := X4.out.cell 9
      have y10 : w4.cell? ⟨wr.heap.size, 10, none⟩ = some (strV p.r.sum) := X4.out.cell 10
      have y11 : w4.cell? ⟨wr.heap.size, 11, none⟩ = some (.slice p.A p.r.data.length p.c) := X4.out.cell 11
      by_cases c1 : 0 ≤ p.cart
      · have dc1 : decide ((0 : Int) ≤ p.cart) = true := by simpa using c1
        by_cases c2 : p.cart < 32
        · have dc2 : decide (p.cart < 32) = true := by simpa using c2
          by_cases c3 : 0 ≤ p.pos
          · have dc3 : decide ((0 : Int) ≤ p.pos) = true := by simpa using c3
            by_cases c4 : p.pos < 1024
            · have dc4 : decide (p.pos < 1024) = true := by simpa using c4
              have SG := Lib.hid (SG0 w4)
              cases hg : goodV p.r with
              | false =>
                have OKF := Lib.hid (show okF (G i) = false by unfold okF; rw [HG.out]; simp [hg])
                rw [hg] at SG
                clear hg c1 c2 c3 c4
                gi_wp2_with (refine ⟨trivial, ?_⟩; gi_at_call 14; refine (callsIn_wide.2 SG.out).mono ?_; rintro e w5 ⟨rfl, hb5⟩; have HJ5 := Lib.hid (JB.out _ _ _ HJ4.out hb5); clear hb5)
                refine ⟨fun f h => (by cases h), ?_⟩
                gi_wp2
                go_roundw
                case rel => exact ⟨i + 1, by simp, hlt, by rw [sel_no OKF.out]; exact HJ5.out⟩
                case measure =>
                  simp only [intOf]
                  omega
              | true =>
                have OKF := Lib.hid (show okF (G i) = true by unfold okF; rw [HG.out]; simp [c1, c2, c3, c4, hg])
                rw [hg] at SG
                clear hg c1 c2 c3 c4
                have PF := Lib.hid (sel_pre G OKF.out hlt)
                rw [HG.out] at PF
                gi_wp2_with (
                  refine ⟨trivial, ?_⟩
                  gi_at_call 14
                  refine (callsIn_wide.2 SG.out).mono ?_
                  rintro e w5 ⟨rfl, hb5⟩
                  have HJ5 := Lib.hid (JB.out _ _ _ HJ4.out hb5)
                  have X5 := Lib.hid (X4.out.below hb5 X4.out.size)
                  clear hb5
                  have z0 : w5.cell? ⟨wr.heap.size, 0, none⟩ = some (.int .i64 p.cart) := X5.out.cell 0
                  have z1 : w5.cell? ⟨wr.heap.size, 1, none⟩ = some (.int .i64 p.pos) := X5.out.cell 1
                  have z2 : w5.cell? ⟨wr.heap.size, 2, none⟩ = some (.int .i64 p.r.kind) := X5.out.cell 2
                  have z3 : w5.cell? ⟨wr.heap.size, 3, none⟩ = some (.int .i64 p.r.cart) := X5.out.cell 3
                  have z4 : w5.cell? ⟨wr.heap.size, 4, none⟩ = some (strV p.r.key) := X5.out.cell 4
                  have z5 : w5.cell? ⟨wr.heap.size, 5, none⟩ = some (.int .i64 p.r.gen) := X5.out.cell 5
                  have z6 : w5.cell? ⟨wr.heap.size, 6, none⟩ = some (.int .i64 p.r.group) := X5.out.cell 6
                  have z7 : w5.cell? ⟨wr.heap.size, 7, none⟩ = some (.int .i64 p.r.groups) := X5.out.cell 7
                  have z8 : w5.cell? ⟨wr.heap.size, 8, none⟩ = some (.int .i64 p.r.index) := X5.out.cell 8
                  have z9 : w5.cell? ⟨wr.heap.size, 9, none⟩ = some (.int .i64 p.r.size) := X5.out.cell 9
                  have z10 : w5.cell? ⟨wr.heap.size, 10, none⟩ = some (strV p.r.sum) := X5.out.cell 10
                  have z11 : w5.cell? ⟨wr.heap.size, 11, none⟩ = some (.slice p.A p.r.data.length p.c) := X5.out.cell 11
                  obtain ⟨fn, tmps, assign, body, hy, hR⟩ := HY.out (sel G i) p w5 PF.out HJ5.out
                  have RR := Lib.hid hR
                  clear hR
                  simp only [foundCells] at hy)
                refine RR.out.mono ?_
                rintro e W2 (⟨rfl, hJ3⟩ | ⟨rfl, hx3⟩)
                · have J3 := Lib.hid hJ3
                  clear hJ3 RR hy
                  gi_wp2
                  go_roundw
                  case rel => exact ⟨i + 1, by simp, hlt, by rw [sel_yes OKF.out, HG.out]; exact J3.out⟩
                  case measure =>
                    simp only [intOf]
                    omega
                · have X3 := Lib.hid hx3
                  clear hx3 RR hy
                  gi_wp2
                  refine bodyPost_ret (results_none rfl _ _ _) rfl ?_
                  exact ⟨⟨_, rfl⟩, .inr ⟨sel G i ++ [p], PF.out, X3.out⟩⟩
            · have dc4 : decide (p.pos < 1024) = false := by simpa using c4
              have OKF := Lib.hid (show okF (G i) = false by unfold okF; rw [HG.out]; simp [c1, c2, c3, c4])
              clear c1 c2 c3 c4
              gi_wp2
              refine ⟨trivial, ?_⟩
              gi_wp2
              refine ⟨fun f h => (by cases h), ?_⟩
              gi_wp2
              go_roundw
              case rel => exact ⟨i + 1, by simp, hlt, by rw [sel_no OKF.out]; exact HJ4.out⟩
              case measure =>
                simp only [intOf]
                omega
          · have dc3 : decide ((0 : Int) ≤ p.pos) = false := by simpa using c3
            have OKF := Lib.hid (show okF (G i) = false by unfold okF; rw [HG.out]; simp [c1, c2, c3])
            clear c1 c2 c3
            gi_wp2
            refine ⟨trivial, ?_⟩
            gi_wp2
            refine ⟨fun f h => (by cases h), ?_⟩
            gi_wp2
            go_roundw
            case rel => exact ⟨i + 1, by simp, hlt, by rw [sel_no OKF.out]; exact HJ4.out⟩
            case measure =>
              simp only [intOf]
              omega
        · have dc2 : decide (p.cart < 32) = false := by simpa using c2
          have OKF := Lib.hid (show okF (G i) = false by unfold okF; rw [HG.out]; simp [c1, c2])
          clear c1 c2
          gi_wp2
          refine ⟨trivial, ?_⟩
          gi_wp2
          refine ⟨fun f h => (by cases h), ?_⟩
          gi_wp2
          go_roundw
          case rel => exact ⟨i + 1, by simp, hlt, by rw [sel_no OKF.out]; exact HJ4.out⟩
          case measure =>
            simp only [intOf]
            omega
      · have dc1 : decide ((0 : Int) ≤ p.cart) = false := by simpa using c1
        have OKF := Lib.hid (show okF (G i) = false by unfold okF; rw [HG.out]; simp [c1])
        clear c1
        gi_wp2
        refine ⟨trivial, ?_⟩
        gi_wp2
        refine ⟨fun f h => (by cases h), ?_⟩
        gi_wp2
        go_roundw
        case rel => exact ⟨i + 1, by simp, hlt, by rw [sel_no OKF.out]; exact HJ4.out⟩
        case measure =>
          simp only [intOf]
          omega
    · have hie : i = n := by omega
      have f1 : decide ((i : Int) < (n : Int)) = false := decide_eq_false (by omega)
      have HE := Lib.hid (show J (sel G n) wr by rw [← hie]; exact HJ.out)
      clear hie hfi
      gi_wp2
      go_end0
      exact ⟨⟨_, rfl⟩, .inl HE.out⟩
end
end Go.Proofs.Ythceidacmeadkaa
