/- A word as bytes. No condition beyond those that each theorem states. -/
import Derived.Test.YtkkmojbaoflafaaDoorY2
import Derived.Shelf.Small.Wraps
import Derived.Shelf.Small.Strs
import Derived.Ground.NamesProg
import Derived.OwnWalk
namespace Go.Proofs.YtkkmojbaoflafaaDoor
open Go.RowKit Go.Shelf

def cutL_ren : Go.Shelf.Ren := ⟨fun | 103 => 53 | 210 => 68 | 206 => 84 | n => n, fun | 9 => 9 | 4 => 4 | 24 => 62 | 3 => 3 | n => n, fun | n => n⟩
theorem cutL : Go.Proofs.Lays.n103 Tryd.prog cutL_ren := {
  mixed := by kernel_rfl
  f103 := Tryd.func53.trans (congrArg some (by kernel_rfl))
  f206 := Tryd.func84.trans (congrArg some (by kernel_rfl))
  f210 := Tryd.func68.trans (congrArg some (by kernel_rfl))
  t3 := Tryd.underlying3
  a3 := Tryd.isAgg3
  z3 := Tryd.sizeOf3
  v3 := Tryd.zeroValue3
  t4 := Tryd.underlying4
  a4 := Tryd.isAgg4
  z4 := Tryd.sizeOf4
  v4 := Tryd.zeroValue4
  t9 := Tryd.underlying9
  a9 := Tryd.isAgg9
  z9 := Tryd.sizeOf9
  v9 := Tryd.zeroValue9
  t24 := Tryd.underlying62
  a24 := Tryd.isAgg62
  z24 := Tryd.sizeOf62
  v24 := Tryd.zeroValue62 }
def idxL_ren : Go.Shelf.Ren := ⟨fun | 137 => 45 | 217 => 56 | 266 => 74 | n => n, fun | 9 => 9 | 5 => 5 | 3 => 3 | n => n, fun | n => n⟩
theorem idxL : Go.Proofs.Lays.n137 Tryd.prog idxL_ren := {
  mixed := by kernel_rfl
  f137 := Tryd.func45.trans (congrArg some (by kernel_rfl))
  f217 := Tryd.func56.trans (congrArg some (by kernel_rfl))
  f266 := Tryd.func74.trans (congrArg some (by kernel_rfl))
  t3 := Tryd.underlying3
  a3 := Tryd.isAgg3
  z3 := Tryd.sizeOf3
  v3 := Tryd.zeroValue3
  t5 := Tryd.underlying5
  a5 := Tryd.isAgg5
  z5 := Tryd.sizeOf5
  v5 := Tryd.zeroValue5
  t9 := Tryd.underlying9
  a9 := Tryd.isAgg9
  z9 := Tryd.sizeOf9
  v9 := Tryd.zeroValue9 }
theorem byte_info : (Tryd.prog.info? 5).map (fun i => (i.zero, i.size, i.bytes)) = some (some (.int .u8 0), 1, 1) := by kernel_rfl
theorem tCut (s : Str) (w : World) : Calls Tryd.prog 53 #[strV s, .string ⟨#[120]⟩] w fun e w' => e = .returned (.tuple #[strV (if s.head? = some 120 then s.tail else s), .bool (decide (s.head? = some 120))]) ∧ w = w' := by
  refine (Any.strings_CutPrefix cutL ⟨s.toArray⟩ ⟨#[120]⟩ w).mono ?_
  rintro e w' ⟨rfl, rfl⟩
  refine ⟨?_, rfl⟩
  cases s with
  | nil => rfl
  | cons c r =>
    by_cases hc : c = 120
    · subst hc
      rfl
    · simp [Lib.trimPrefix, Lib.hasPrefix, hc, List.isPrefixOf, Ne.symm hc]
def unI (c : UInt8) : Int := match unD c with
  | some n => n
  | none => -1
theorem index_hex (c : UInt8) : Lib.indexByte [48, 49, 50, 51, 52, 53, 54, 55, 56, 57, 97, 98, 99, 100, 101, 102] c = unI c := by
  have h : ∀ k : Fin 256, Lib.indexByte [48, 49, 50, 51, 52, 53, 54, 55, 56, 57, 97, 98, 99, 100, 101, 102] (UInt8.ofNat k.val) = unI (UInt8.ofNat k.val) := by decide +kernel
  have h1 := h ⟨c.toNat, c.toNat_lt⟩
  simpa using h1
theorem tIndex (c : UInt8) (w : World) : Calls Tryd.prog 45 #[.string ⟨#[48, 49, 50, 51, 52, 53, 54, 55, 56, 57, 97, 98, 99, 100, 101, 102]⟩, .int .u8 (c.toNat : Int)] w fun e w' => e = .returned (.int .i64 (unI c)) ∧ w = w' := by
  refine (Any.strings_IndexByte idxL _ (c.toNat : Int) w).mono ?_
  rintro e w' ⟨rfl, rfl⟩
  refine ⟨?_, rfl⟩
  rw [← index_hex c]
  simp
theorem unhexP_odd : ∀ (s : Str), s.length % 2 = 1 → unhexP s = none
  | [], h => by cases h
  | [_], _ => rfl
  | a :: b :: r, h => by
    have hr := unhexP_odd r (by simp only [List.length_cons] at h; omega)
    rw [unhexP, hr]
    split <;> rfl
theorem quiet_eq {P : Program} {f : FuncId} {args : Array Value} {w : World} {n : Nat} {v : Value} (h : Calls P f args (w.drewN n) fun e w' => e = .returned v ∧ w.drewN n = w') :
    Calls P f args (w.drewN n) fun e w' => e = .returned v ∧ ∃ m, w' = w.drewN m :=
  h.mono fun _ _ ⟨he, hm⟩ => ⟨he, n, hm.symm⟩
def strOf : Value → Str
  | .string s => s.data.toList
  | _ => []
theorem str_drop (l : Str) (k n : Nat) (h : l.length = n) : (⟨l.toArray⟩ : ByteArray).extract k n = ⟨(l.drop k).toArray⟩ := by
  apply ByteArray.ext
  simp [← h]
  rw [List.take_of_length_le (by simp)]
def Unhexed (w : World) (o : Option Str) (e : Ending) (w' : World) : Prop := match o with
  | none => e = .returned (.tuple #[.slice none 0 0, .bool false])
  | some l => ∃ g cap, e = .returned (.tuple #[.slice (some ⟨g, 0, none⟩) l.length cap, .bool true]) ∧ w.heap.size ≤ g ∧ l.length ≤ cap ∧ cap ≤ maxLen ∧ RowAt w' g 5 (byteVals l)
section
set_option maxHeartbeats 4000000
set_option maxRecDepth 8000
theorem tUnhex (s : Str) (w : World) (hn : s.length ≤ 140737488355328) :
    Calls Tryd.prog 41 #[strV s] w fun e w' => Unhexed w (unhexT s) e w' ∧ Below w.heap.size w w' := by
  obtain ⟨i0, hi0, hz0, hz1, hz2⟩ := info_parts byte_info
  by_cases hh : s.head? = some 120
  · obtain ⟨r, rfl⟩ : ∃ r, s = 120 :: r := by
      cases s with
      | nil => cases hh
      | cons c r =>
        have : c = 120 := by simpa using hh
        exact ⟨r, by rw [this]⟩
    have hu : unhexT (120 :: r) = unhexP r := by
      show (if (120 : UInt8) = 120 then unhexP r else none) = _
      rw [if_pos rfl]
    rw [hu]
    clear hh hu
    have hcut := tCut (120 :: r)
    simp only [List.head?_cons, if_true, List.tail_cons, decide_true] at hcut
    have hr : r.length ≤ 140737488355328 := by simp only [List.length_cons] at hn; omega
    clear hn
    by_cases ho : r.length % 2 = 1
    · have d0 : ((r.length : Int) % 2 == 1) = true := by simp; omega
      rw [unhexP_odd r ho]
      clear ho
      go_enter Tryd.func41, Tryd.ntmps41
      go_wp2_with (go_at_call 53; refine (hcut _).mono ?_; rintro e w1 ⟨rfl, rfl⟩)
      go_ret2
      exact ⟨rfl, Below.refl _ _⟩
    · have d0 : ((r.length : Int) % 2 == 1) = false := by simp; omega
      have HO := Lib.hid ho
      clear ho
      go_enter Tryd.func41, Tryd.ntmps41
      go_wp2_with (first
        | (go_at_call 53; refine (hcut _).mono ?_; rintro e w1 ⟨rfl, rfl⟩)
        | (at_make
           refine wpList_make_own _ rfl _ _ 22 rfl w.heap.size 5 i0 (.int .u8 0) 1 Tryd.underlying22 hi0 hz0 hz1 .i64 .i64 _ (r.length / 2) rfl rfl (by simp) (by rw [hz2]; omega) (by unfold maxLen; omega) (by omega) ?_
           intro w1 hown1 hg1
           have RW := Lib.hid hown1
           have G1 := Lib.hid hg1
           clear hown1 hg1))
      go_loopw [0, 5] (fun sv ov wr => ∃ (rest done : Str) (g cap : Nat), sv = strV rest ∧ ov = .slice (some ⟨g, 0, none⟩) done.length cap ∧ wr.ownsRow w.heap.size 5 1 ov done.length (byteVals done) ∧ rest.length % 2 = 0 ∧ done.length + done.length + rest.length = r.length ∧ unhexP r = (unhexP rest).map (done ++ ·) ∧ Below w.heap.size w wr) (fun sv _ _ => (strOf sv).length)
      case atStart => exact ⟨r, [], _, _, rfl, rfl, RW.out, by have := HO.out; omega, by simp, by cases unhexP r <;> simp, (Below.refl _ w).grown G1.out (Nat.le_refl _) (fun q hq => by cases hq)⟩
      case round =>
        clear RW G1
        obtain ⟨rest, done, g, cap, rfl, rfl, hown, hpar, hsum, hun, hbl⟩ := hrel
        have OW := Lib.hid hown
        have BL := Lib.hid hbl
        have UN := Lib.hid hun
        have hz := hbl.size
        clear hown hbl hun
        match rest, hpar with
        | [], _ =>
          have hcap := own_cap OW.out
          go_wp2_with fail
          go_ret2
          refine ⟨?_, BL.out⟩
          have e1 : unhexP r = some done := by rw [UN.out]; simp [unhexP]
          rw [e1]
          exact ⟨g, cap, by simp, (OW.out.lt g rfl).1, hcap.1, hcap.2, RowAt.of_own (by simpa using OW.out)⟩
        | [a], h => exact absurd h (by simp)
        | a :: b :: rs, hpar =>
          have hpos : (0 : Int) < (rs.length : Int) + 1 + 1 := by omega
          have hpos1 : (1 : Int) < (rs.length : Int) + 1 + 1 := by omega
          go_wp2_with fail
          go_quiet ((go_at_call 45; exact quiet_eq (tIndex _ _)))
          have e0 : ∀ h, (⟨(a :: b :: rs).toArray⟩ : ByteArray)[0]'h = a := fun _ => rfl
          have e1 : ∀ h, (⟨(a :: b :: rs).toArray⟩ : ByteArray)[1]'h = b := fun _ => rfl
          cases ha : unD a with
          | none =>
            have hia : unI a = -1 := by unfold unI; rw [ha]
            have hno : unhexP (a :: b :: rs) = none := by rw [unhexP, ha]
            rw [hno] at UN
            simp only [e0, e1, hia]
            clear e0 e1 ha hia hno
            go_wp2_with fail
            go_ret2
            rw [UN.out]
            exact ⟨rfl, below_drewN BL.out _⟩
          | some x =>
            have hia : unI a = x := by unfold unI; rw [ha]
            have hx := unD_lt ha
            cases hb : unD b with
            | none =>
              have hib : unI b = -1 := by unfold unI; rw [hb]
              have hno : unhexP (a :: b :: rs) = none := by rw [unhexP, ha, hb]
              rw [hno] at UN
              simp only [e0, e1, hia, hib]
              clear e0 e1 ha hia hb hib hno
              have d1 : decide ((x : Int) < 0) = false := by simp
              go_wp2_with fail
              go_ret2
              rw [UN.out]
              exact ⟨rfl, below_drewN BL.out _⟩
            | some y =>
              have hib : unI b = y := by unfold unI; rw [hb]
              have hy := unD_lt hb
              have hyes : unhexP (a :: b :: rs) = (unhexP rs).map (UInt8.ofNat (16 * x + y) :: ·) := by rw [unhexP, ha, hb]
              rw [hyes] at UN
              simp only [e0, e1, hia, hib]
              clear e0 e1 ha hia hb hib hyes
              have d1 : decide ((x : Int) < 0) = false := by simp
              have d2 : decide ((y : Int) < 0) = false := by simp
              have hle : done.length + 1 ≤ 140737488355328 := by simp only [List.length_cons] at hsum; omega
              go_wp2_with (
                at_builtin
                refine wpList_append_live _ rfl _ _ 22 rfl w.heap.size 5 i0 _ 1 1 Tryd.underlying22 hi0 hz0 hz1 hz2 rfl (by omega) g done.length cap (byteVals done) rfl (by exact ((own_drewN OW.out nq).alloc _)) wr.heap.size 0 1 1 [.int .u8 ((x : Int) * 16 + y)] rfl rfl (by exact src_new (wr.drewN nq) [.int .u8 ((x : Int) * 16 + y)] 5 1) (by simp [Value.oneCell']) (by simp only [maxLen]; omega) (by omega) (by simp; omega) ?_
                intro g2 cap2 w2 hown2 hg2 hat2 hlt2
                have O2 := Lib.hid hown2
                have G2 := Lib.hid hg2
                have AT2 := Lib.hid hat2
                clear hown2 hg2 hat2)
              go_roundw
              case rel =>
                refine ⟨rs, done ++ [UInt8.ofNat (16 * x + y)], g2, cap2, by rw [str_drop (a :: b :: rs) 2 (rs.length + 1 + 1) rfl]; rfl, by simp, ?_, by simp only [List.length_cons] at hpar; omega, by simp only [List.length_cons, List.length_append, List.length_nil] at hsum ⊢; omega, ?_, ?_⟩
                · have e : byteVals (done ++ [UInt8.ofNat (16 * x + y)]) = byteVals done ++ [.int .u8 ((x : Int) * 16 + y)] := by
                    have e2 : (UInt8.ofNat (16 * x + y)).toNat = x * 16 + y := by rw [UInt8.toNat_ofNat']; omega
                    simp only [byteVals, List.map_append, List.map_cons, List.map_nil, e2]
                    rfl
                  rw [e, List.length_append, List.length_singleton]
                  exact O2.out
                · rw [UN.out]
                  cases unhexP rs <;> simp
                · have hb1 : Below w.heap.size w ((wr.drewN nq).alloc (.cells #[.int .u8 ((x : Int) * 16 + y)] 5)) := (below_drewN BL.out nq).alloc hz _
                  exact hb1.grown G2.out hb1.size (fun q hq => by have e := Option.some.inj hq; have := (OW.out.lt g rfl).1; omega)
              case measure =>
                rw [str_drop (a :: b :: rs) 2 (rs.length + 1 + 1) rfl]
                simp [strOf]
                omega
  · have hcut := tCut s
    rw [if_neg hh, decide_eq_false hh] at hcut
    have hu : unhexT s = none := by
      cases s with
      | nil => rfl
      | cons c r =>
        have : c ≠ 120 := by simpa using hh
        show (if c = 120 then unhexP r else none) = none
        rw [if_neg this]
    rw [hu]
    clear hh hu
    go_enter Tryd.func41, Tryd.ntmps41
    go_wp2_with (go_at_call 53; refine (hcut _).mono ?_; rintro e w1 ⟨rfl, rfl⟩)
    go_ret2
    exact ⟨rfl, Below.refl _ _⟩
end
end Go.Proofs.YtkkmojbaoflafaaDoor
