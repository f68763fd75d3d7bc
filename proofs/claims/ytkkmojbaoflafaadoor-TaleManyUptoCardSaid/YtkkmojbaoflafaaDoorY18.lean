/- The document's bytes of a word. No condition beyond those that each theorem states. -/
import Derived.Test.YtkkmojbaoflafaaDoorY17
import Derived.Test.YtkkmojbaoflafaaDoorY13
namespace Go.Proofs.YtkkmojbaoflafaaDoor
open Go.RowKit Go.Shelf
attribute [local go_sem] Oper.semAt_some

def bytesV (o : Option Str) : Value := .tuple #[strV (o.getD []), .bool o.isSome]
set_option maxHeartbeats 4000000 in
set_option maxRecDepth 100000 in
theorem rBytes_ok (r : Str) (he : r.length % 2 = 0) (w : World) (hs : r.length ≤ 1000000000) :
    Calls Tryd.prog 29 #[strV (120 :: r)] w fun e w' => e = .returned (bytesV (unhexP r)) ∧ Below w.heap.size w w' := by
  have HO := Lib.hid he
  obtain ⟨i0, hi0, hz0, hz1, hz2⟩ := info_parts byte_info
  obtain ⟨n, hn⟩ : ∃ n, r.length = n := ⟨_, rfl⟩
  have HN := Lib.hid hn
  have d0 : ((n : Int) + 1) % 2 = 1 := by omega
  have d1 : (0 : Int) < (n : Int) + 1 := by omega
  have e0 : ∀ h, (⟨(120 :: r).toArray⟩ : ByteArray)[0]'h = 120 := fun _ => rfl
  go_enter Tryd.func29, Tryd.ntmps29
  go_upto_region 5 with fail
  clear d0 d1 e0 he
  have OW0 := Lib.hid (World.ownsRow_lit (base := w.heap.size) (e := 5) (size := 1) w #[] 0 (Nat.le_refl _) (by decide) rfl)
  go_loopw [4, 5] (fun sv iv wr => ∃ (i : Nat) (rest done : Str) (g cap : Nat), sv = .slice (some ⟨g, 0, none⟩) done.length cap ∧ iv = .int .i64 i ∧ done.length ≤ i ∧ i + rest.length = n + 1 ∧ (120 :: r).drop i = rest ∧ rest.length % 2 = 0 ∧ wr.ownsRow w.heap.size 5 1 sv done.length (byteVals done) ∧ unhexP r = (unhexP rest).map (done ++ ·) ∧ Below w.heap.size w wr) (fun _ iv _ => n + 1 - (intOf iv).toNat)
  case atStart => exact ⟨1, r, [], w.heap.size, 0, rfl, rfl, Nat.zero_le _, by have := HN.out; omega, rfl, HO.out, OW0.out, by cases unhexP r <;> simp, (Below.refl _ w).alloc (Nat.le_refl _) _⟩
  case round =>
    obtain ⟨i, rest, done, g, cap, rfl, rfl, hi, hin, hdr, hpar, hown, hun, hbl⟩ := hrel
    have OW := Lib.hid hown
    have BL := Lib.hid hbl
    have UN := Lib.hid hun
    have HI := Lib.hid hi
    have hz := hbl.size
    clear hown hbl hun OW0
    match rest, hpar, hin, hdr with
    | [], _, hin, _ =>
      have hie : i = n + 1 := by simpa using hin
      have e1 : decide ((i : Int) < (n : Int) + 1) = false := decide_eq_false (by omega)
      have e2 : ¬ (i : Int) < (n : Int) + 1 := by omega
      clear hie hin hi
      have hrow : RowAt wr g 5 (byteVals done) := RowAt.of_own OW.out
      have hcv := run_string_of (P := Tryd.prog) (src := 22) (e := 5) (dst := 9) (c := cap) Tryd.underlying22 Tryd.underlying5 Tryd.underlying9 hrow.bytesIn (.inr ⟨_, _, rfl⟩)
      clear hrow
      go_wp2_with fail
      go_ret2
      refine ⟨?_, BL.out⟩
      have e1 : unhexP r = some done := by rw [UN.out]; simp [unhexP]
      rw [e1]
      rfl
    | [a], h, _, _ => exact absurd h (by simp)
    | a :: b :: rs, hpar, hin, hdr =>
      simp only [List.length_cons] at hin
      have hpos : (i : Int) < (n : Int) + 1 := by omega
      obtain ⟨i1, hi1⟩ : ∃ i1, i1 = i + 1 := ⟨_, rfl⟩
      have hpos1 : (i1 : Int) < (n : Int) + 1 := by omega
      have hposN : i < n + 1 := by omega
      have hposN1 : i1 < n + 1 := by omega
      have hge : (0 : Int) ≤ (i : Int) := by omega
      have hge1 : (0 : Int) ≤ (i1 : Int) := by omega
      have hw1 : IntKind.i64.wrap ((i : Int) + 1) = (i1 : Int) := by rw [IntWalk.i64_in _ (by have := HN.out; omega)]; omega
      have hw2 : IntKind.i64.wrap ((i : Int) + 2) = (i : Int) + 2 := IntWalk.i64_in _ (by have := HN.out; omega)
      have E0 := Lib.hid (show (120 :: r)[i]? = some a by have := congrArg (·[0]?) hdr; simpa using this)
      have E1 := Lib.hid (show (120 :: r)[i1]? = some b by rw [hi1]; have := congrArg (·[1]?) hdr; simpa using this)
      have DR := Lib.hid hdr
      have HI1 := Lib.hid hi1
      clear hdr hi hi1 hin
      go_wp2_with fail
      go_quiet ((go_at_call 43; exact quiet_eq (rDigit _ _)))
      have e0 : ∀ h, (⟨(120 :: r).toArray⟩ : ByteArray)[i]'h = a := fun h => (List.getElem?_eq_some_iff.1 E0.out).2
      have e1 : ∀ h, (⟨(120 :: r).toArray⟩ : ByteArray)[i1]'h = b := fun h => (List.getElem?_eq_some_iff.1 E1.out).2
      cases ha : unD a with
      | none =>
        have hia : unI a = -1 := by unfold unI; rw [ha]
        have hno : unhexP (a :: b :: rs) = none := by rw [unhexP, ha]
        rw [hno] at UN
        simp only [e0, e1, hia]
        clear e0 e1 ha hia hno
        go_wp2_with fail
        go_ret2
        rw [UN.out]
        exact ⟨rfl, below_drewN BL.out _⟩
      | some x =>
        have hia : unI a = x := by unfold unI; rw [ha]
        have hx := unD_lt ha
        cases hb : unD b with
        | none =>
          have hib : unI b = -1 := by unfold unI; rw [hb]
          have hno : unhexP (a :: b :: rs) = none := by rw [unhexP, ha, hb]
          rw [hno] at UN
          simp only [e0, e1, hia, hib]
          clear e0 e1 ha hia hb hib hno
          have d1 : decide ((x : Int) < 0) = false := by simp
          go_wp2_with fail
          go_ret2
          rw [UN.out]
          exact ⟨rfl, below_drewN BL.out _⟩
        | some y =>
          have hib : unI b = y := by unfold unI; rw [hb]
          have hy := unD_lt hb
          have hyes : unhexP (a :: b :: rs) = (unhexP rs).map (UInt8.ofNat (16 * x + y) :: ·) := by rw [unhexP, ha, hb]
          rw [hyes] at UN
          simp only [e0, e1, hia, hib]
          clear e0 e1 ha hia hb hib hyes
          have d1 : decide ((x : Int) < 0) = false := by simp
          have d2 : decide ((y : Int) < 0) = false := by simp
          have hle : done.length + 1 ≤ 140737488355328 := by have := HI.out; have := HN.out; omega
          go_wp2_with (
            at_builtin
            refine wpList_append_live _ rfl _ _ 22 rfl w.heap.size 5 i0 _ 1 1 Tryd.underlying22 hi0 hz0 hz1 hz2 rfl (by omega) g done.length cap (byteVals done) rfl (by exact ((own_drewN OW.out nq).alloc _)) wr.heap.size 0 1 1 [.int .u8 (16 * (x : Int) + y)] rfl rfl (by exact src_new (wr.drewN nq) [.int .u8 (16 * (x : Int) + y)] 5 1) (by simp [Value.oneCell']) (by simp only [maxLen]; omega) (by omega) (by simp; omega) ?_
            intro g2 cap2 w2 hown2 hg2 hat2 hlt2
            have O2 := Lib.hid hown2
            have G2 := Lib.hid hg2
            clear hown2 hg2 hat2)
          go_roundw
          case rel =>
            refine ⟨i + 2, rs, done ++ [UInt8.ofNat (16 * x + y)], g2, cap2, by simp, by simp, by have := HI.out; simp; omega, by have := HI1.out; have := congrArg List.length DR.out; simp only [List.length_drop, List.length_cons] at this; omega, ?_, by simp only [List.length_cons] at hpar; omega, ?_, ?_, ?_⟩
            · have h2 := congrArg (List.drop 2) DR.out
              rw [List.drop_drop] at h2
              exact h2
            · have e : byteVals (done ++ [UInt8.ofNat (16 * x + y)]) = byteVals done ++ [.int .u8 (16 * (x : Int) + y)] := by
                have e2 : (UInt8.ofNat (16 * x + y)).toNat = 16 * x + y := by rw [UInt8.toNat_ofNat']; omega
                simp only [byteVals, List.map_append, List.map_cons, List.map_nil, e2]
                rfl
              rw [e, List.length_append, List.length_singleton]
              exact O2.out
            · rw [UN.out]
              cases unhexP rs <;> simp
            · have hb1 : Below w.heap.size w ((wr.drewN nq).alloc (.cells #[.int .u8 (16 * (x : Int) + y)] 5)) := (below_drewN BL.out nq).alloc hz _
              exact hb1.grown G2.out hb1.size (fun q hq => by have e := Option.some.inj hq; have := (OW.out.lt g rfl).1; omega)
          case measure =>
            simp only [intOf]
            omega
theorem rBytes (s : Str) (w : World) (hs : s.length ≤ 1000000000) :
    Calls Tryd.prog 29 #[strV s] w fun e w' => e = .returned (bytesV (unhexT s)) ∧ Below w.heap.size w w' := by
  by_cases hp : s.length % 2 = 0
  · have hu : unhexT s = none := by
      cases s with
      | nil => rfl
      | cons c r =>
        show (if c = 120 then unhexP r else none) = none
        split
        · exact unhexP_odd r (by simp only [List.length_cons] at hp; omega)
        · rfl
    have HU := Lib.hid hu
    have d0 : (s.length : Int) % 2 = 0 := by omega
    clear hp hu
    go_enter Tryd.func29, Tryd.ntmps29
    go_wp2_with fail
    go_ret2
    rw [HU.out]
    exact ⟨rfl, Below.refl _ _⟩
  · cases s with
    | nil => exact absurd rfl hp
    | cons c r =>
      have hr : r.length % 2 = 0 := by simp only [List.length_cons] at hp; omega
      by_cases hc : c = 120
      · subst hc
        have h1 : unhexT (120 :: r) = unhexP r := rfl
        rw [h1]
        exact rBytes_ok r hr w (by simp only [List.length_cons] at hs; omega)
      · have hu : unhexT (c :: r) = none := by
          show (if c = 120 then unhexP r else none) = none
          rw [if_neg hc]
        have HU := Lib.hid hu
        obtain ⟨n, hn⟩ : ∃ n, r.length = n := ⟨_, rfl⟩
        have d0 : ((n : Int) + 1) % 2 = 1 := by omega
        have d1 : (0 : Int) < (n : Int) + 1 := by omega
        have e0 : ∀ h, (⟨(c :: r).toArray⟩ : ByteArray)[0]'h = c := fun _ => rfl
        have e1 : ((c.toNat : Int) != 120) = true := by
          have : c.toNat ≠ 120 := fun h => hc (UInt8.toNat_inj.1 h)
          simp
          omega
        have e2 : ((c.toNat : Int) == 120) = false := by
          have : c.toNat ≠ 120 := fun h => hc (UInt8.toNat_inj.1 h)
          simp
          omega
        clear hp hr hu hc
        go_enter Tryd.func29, Tryd.ntmps29
        go_wp2_with fail
        go_ret2
        rw [HU.out]
        exact ⟨rfl, Below.refl _ _⟩
end Go.Proofs.YtkkmojbaoflafaaDoor
