/- The lines of a text, and the library's iterator over them. No condition beyond those that each theorem states. -/
import Derived.Test.YtkkmojbaoflafaaDoorY3
import Derived.Test.YtkkmojbaoflafaaDoorY8
import Derived.Test.YtkkmojbaoflafaaDoorG1
import Derived.RangeFuncNested
import Derived.RangeFuncBound
import Derived.RangeFuncCalls
import Derived.RangeFuncLeaves
import Derived.Shelf.Abstract
import Derived.Shelf.RegionOpen
import Derived.OwnWalkIn
import Derived.TacticsInMore
import Derived.LoopNIn
import Derived.LoopIn
import Derived.RegionIn
namespace Go.Proofs.YtkkmojbaoflafaaDoor
open Go.RowKit Go.Shelf
attribute [local go_sem] Oper.semAt_some

/-- A text's lines, each with its end. -/
def rawLines : Str → List Str
  | [] => []
  | c :: r => if c = 10 then [c] :: rawLines r else match rawLines r with
    | [] => [[c]]
    | h :: t => (c :: h) :: t
theorem raw_last : ∀ {s : Str}, (10 : UInt8) ∉ s → s ≠ [] → rawLines s = [s]
  | [], _, h => absurd rfl h
  | [c], h, _ => by
    have hc : c ≠ 10 := fun e => h (by simp [e])
    simp [rawLines, hc]
  | c :: d :: r, h, _ => by
    have hc : c ≠ 10 := fun e => h (by simp [e])
    have ih := raw_last (s := d :: r) (fun e => h (List.mem_cons_of_mem _ e)) (by simp)
    rw [rawLines, if_neg hc, ih]
theorem raw_at : ∀ {a : Str} (r : Str), (10 : UInt8) ∉ a → rawLines (a ++ 10 :: r) = (a ++ [10]) :: rawLines r
  | [], r, _ => by simp [rawLines]
  | c :: a, r, h => by
    have hc : c ≠ 10 := fun e => h (by simp [e])
    have ih := raw_at (a := a) r (fun e => h (List.mem_cons_of_mem _ e))
    rw [List.cons_append, rawLines, if_neg hc, ih]
    rfl
theorem raw_len : ∀ {s x : Str}, x ∈ rawLines s → x.length ≤ s.length
  | [], x, h => by cases h
  | c :: r, x, h => by
    rw [rawLines] at h
    split at h
    · rcases List.mem_cons.1 h with rfl | h
      · simp
      · have := raw_len h
        simp only [List.length_cons]
        omega
    · cases hr : rawLines r with
      | nil =>
        rw [hr] at h
        rcases List.mem_cons.1 h with rfl | h
        · simp
        · cases h
      | cons p t =>
        rw [hr] at h
        rcases List.mem_cons.1 h with rfl | h
        · have := raw_len (s := r) (x := p) (by rw [hr]; simp)
          simp only [List.length_cons]
          omega
        · have := raw_len (s := r) (x := x) (by rw [hr]; simp [h])
          simp only [List.length_cons]
          omega
theorem tIndexNl (s : Str) (w : World) : Calls Tryd.prog 45 #[strV s, .int .u8 10] w fun e w' => e = .returned (.int .i64 (Lib.indexByte s 10)) ∧ w' = w := by
  refine (Any.strings_IndexByte idxL ⟨s.toArray⟩ 10 w).mono ?_
  rintro e w' ⟨rfl, rfl⟩
  exact ⟨rfl, rfl⟩
theorem str_take (l : Str) (k : Nat) : (⟨l.toArray⟩ : ByteArray).extract 0 k = ⟨(l.take k).toArray⟩ := by
  apply ByteArray.ext
  simp
def boxLen (w : World) (b : Nat) : Nat := (strOf ((w.cell? ⟨b, 0, none⟩).getD undef)).length
theorem boxLen_eq {w : World} {b : Nat} {s : Str} (h : Blk w b 9 #[strV s]) : boxLen w b = s.length := by
  unfold boxLen
  rw [h.cell 0]
  rfl
section
set_option maxHeartbeats 8000000
set_option maxRecDepth 8000
theorem lines_it (b : Nat) (s : Str) (l : Nat) (J Jx : List Str → World → Prop) (W : World) (hJd : ∀ pre W, J pre W → J pre W.drew)
    (hJs : ∀ pre W u v, J pre W → Blk W b 9 #[u] → J pre (W.setCell ⟨b, 0, none⟩ v))
    (hY : ∀ pre x W1 u, pre ++ [x] <+: rawLines s → J pre W1 → Blk W1 b 9 #[u] → YieldAt Fence.wide 1 Tryd.prog l #[strV x] W1 fun e W' => (e = .returned (.bool true) ∧ J (pre ++ [x]) W' ∧ Blk W' b 9 #[u]) ∨ (e = .returned (.bool false) ∧ Jx (pre ++ [x]) W'))
    (hb : Blk W b 9 #[strV s]) (h0 : J [] W) (hs : s.length ≤ 1000000000) :
    CallsIn Fence.wide 2 Tryd.prog 44 #[.func (.yield l) #[] #[], .pointer (some ⟨b, 0, none⟩)] W fun e W' => (∃ v, e = .returned v) ∧ (J (rawLines s) W' ∨ ∃ pre, pre <+: rawLines s ∧ Jx pre W') := by
  have JD := Lib.hid hJd
  have JS := Lib.hid hJs
  have HY := Lib.hid hY
  have HB := Lib.hid hb
  have H0 := Lib.hid h0
  clear hJd hJs hY hb h0
  refine callsIn_of_wp Tryd.func44 rfl trivial ?_ rfl
  simp only [Tryd.ntmps44, List.size_toArray, List.length_cons, List.length_nil, Nat.reduceAdd, Nat.reduceSub, Array.replicate_succ, Array.replicate_zero, List.push_toArray, List.append_toArray, List.nil_append, List.cons_append]
  gi_wp2
  gi_loopw [] (fun wr => ∃ (pre : List Str) (rest : Str), Blk wr b 9 #[strV rest] ∧ rawLines s = pre ++ rawLines rest ∧ rest.length ≤ 1000000000 ∧ J pre wr) (fun wr => boxLen wr b)
  case atStart => exact ⟨[], s, HB.out, rfl, hs, H0.out⟩
  case round =>
    obtain ⟨pre, rest, hbk, hrl, hrs, hj⟩ := hrel
    have BK := Lib.hid hbk
    have RL := Lib.hid hrl
    have HJ := Lib.hid hj
    have hbz := hbk.size
    have k0 : wr.cell? ⟨b, 0, none⟩ = some (strV rest) := hbk.cell 0
    have f0 : wr.frozen? ⟨b, 0, none⟩ = false := hbk.free 0
    have hlen := boxLen_eq hbk
    clear hbk hrl hj
    cases rest with
    | nil =>
      gi_wp2
      go_end0
      exact ⟨⟨_, rfl⟩, .inl (by rw [RL.out, show rawLines [] = [] from rfl, List.append_nil]; exact HJ.out)⟩
    | cons c r =>
      have hne : c :: r ≠ [] := by simp
      generalize c :: r = rest at *
      have hln : 0 < rest.length := List.length_pos_iff.2 hne
      have hl0 : (0 : Int) < (rest.length : Int) := by omega
      have TI := Lib.hid (tIndexNl rest)
      by_cases hc : (10 : UInt8) ∈ rest
      · obtain ⟨a, r2, hr, ha⟩ := first_of hc
        have hix : Lib.indexByte rest 10 = (a.length : Int) := by rw [hr, index_at r2 ha]
        have hal : a.length < rest.length := by rw [hr]; simp
        have p1 : (0 : Int) ≤ (a.length : Int) := by omega
        have p2 : (0 : Int) ≤ (a.length : Int) + 1 := by omega
        have p3 : (a.length : Int) + 1 ≤ (rest.length : Int) := by omega
        have p4 : a.length + 1 ≤ rest.length := by omega
        have p5 : wrap64 ((a.length : Int) + 1) = (a.length : Int) + 1 := IntWalk.wrap64_in _ (by omega)
        have p6 : IntKind.i64.wrap ((a.length : Int) + 1) = (a.length : Int) + 1 := IntWalk.i64_in _ (by omega)
        have HR := Lib.hid hr
        have HA := Lib.hid ha
        clear hr ha hc hne
        gi_wp2_with (refine ⟨trivial, ?_⟩; gi_at_call 45; refine (callsIn_wide.2 (TI.out _)).mono ?_; rintro e w1 ⟨rfl, rfl⟩; rw [hix])
        gi_region
        gi_wp2
        have e1 : (⟨rest.toArray⟩ : ByteArray).extract 0 (a.length + 1) = ⟨(a ++ [10]).toArray⟩ := by rw [str_take, HR.out]; simp [List.take_append]; exact List.take_of_length_le (by omega)
        have e2 : (⟨rest.toArray⟩ : ByteArray).extract (a.length + 1) rest.length = ⟨r2.toArray⟩ := by rw [str_drop rest _ _ rfl, HR.out]; simp [List.drop_append]
        simp only [e1, e2]
        have HW := Lib.hid (show Blk ((w1.setCell ⟨b, 0, none⟩ (strV r2)).drew) b 9 #[strV r2] from BK.out.store 0 (strV r2))
        have HJ2 := Lib.hid (JD.out pre _ (JS.out pre w1 _ (strV r2) HJ.out BK.out))
        have hraw : rawLines rest = (a ++ [10]) :: rawLines r2 := by rw [HR.out, raw_at r2 HA.out]
        obtain ⟨fn, tmps, assign, body, hy, hR⟩ := HY.out pre (a ++ [10]) _ _ (by rw [RL.out, hraw]; exact ⟨rawLines r2, by simp⟩) HJ2.out HW.out
        have RR := Lib.hid hR
        clear hR
        rw [hy]
        gi_wp2
        have hl2 : r2.length < rest.length := by rw [HR.out]; simp; omega
        refine RR.out.mono ?_
        rintro e W2 (⟨rfl, hJ3, hb3⟩ | ⟨rfl, hx3⟩)
        · have J3 := Lib.hid hJ3
          have B3 := Lib.hid hb3
          clear hJ3 hb3
          gi_wp2
          go_roundw
          case rel => exact ⟨pre ++ [a ++ [10]], r2, B3.out, by rw [RL.out, hraw]; simp, by omega, J3.out⟩
          case measure => rw [boxLen_eq (s := r2) B3.out, hlen]; exact hl2
        · have X3 := Lib.hid hx3
          clear hx3
          gi_wp2
          refine bodyPost_ret (results_none rfl _ _ _) rfl ?_
          exact ⟨⟨_, rfl⟩, .inr ⟨pre ++ [a ++ [10]], by rw [RL.out, hraw]; exact ⟨rawLines r2, by simp⟩, X3.out⟩⟩
      · have hix : Lib.indexByte rest 10 = -1 := by
          have h := Lib.indexByte_ge rest 10
          rcases Int.lt_or_le (Lib.indexByte rest 10) 0 with h1 | h1
          · omega
          · exact absurd (List.mem_of_getElem? (Lib.indexByte_some (l := rest) (c := 10) (o := (Lib.indexByte rest 10).toNat) (by omega)).1) hc
        have HC := Lib.hid hc
        have HN := Lib.hid hne
        clear hc hne
        have HW := Lib.hid (BK.out.store 0 (.string ⟨#[]⟩))
        have HJ2 := Lib.hid (JS.out pre wr _ (.string ⟨#[]⟩) HJ.out BK.out)
        obtain ⟨fn, tmps, assign, body, hy, hR⟩ := HY.out pre rest (wr.setCell ⟨b, 0, none⟩ (.string ⟨#[]⟩)) (.string ⟨#[]⟩) (by rw [RL.out, raw_last HC.out HN.out]; exact List.prefix_rfl) HJ2.out HW.out
        have HR := Lib.hid hR
        clear hR
        gi_wp2_with (refine ⟨trivial, ?_⟩; gi_at_call 45; refine (callsIn_wide.2 (TI.out _)).mono ?_; rintro e w1 ⟨rfl, rfl⟩; rw [hix])
        refine HR.out.mono ?_
        rintro e W2 (⟨rfl, hJ3, hb3⟩ | ⟨rfl, hx3⟩)
        · have J3 := Lib.hid hJ3
          have B3 := Lib.hid hb3
          clear hJ3 hb3
          gi_wp2
          go_roundw
          case rel => exact ⟨pre ++ [rest], [], B3.out, by rw [RL.out, raw_last HC.out HN.out]; simp [rawLines], by simp, J3.out⟩
          case measure => rw [boxLen_eq (s := []) B3.out, hlen]; simpa using hln
        · have X3 := Lib.hid hx3
          clear hx3
          gi_wp2
          refine bodyPost_ret (results_none rfl _ _ _) rfl ?_
          exact ⟨⟨_, rfl⟩, .inr ⟨pre ++ [rest], by rw [RL.out, raw_last HC.out HN.out]; exact List.prefix_rfl, X3.out⟩⟩
end
end Go.Proofs.YtkkmojbaoflafaaDoor
