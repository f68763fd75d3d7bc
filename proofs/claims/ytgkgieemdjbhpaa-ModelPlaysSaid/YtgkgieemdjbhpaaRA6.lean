/- The document's numbers and texts as bytes. No condition beyond those that each theorem states. -/
import Derived.Test.YtgkgieemdjbhpaaMA6
import Derived.Deep.DeepCutAuto
import Derived.Deep.CutBlock
namespace Go.Proofs.Ytgkgieemdjbhpaa
open Go.RowKit Go.Maps

theorem bys_snoc {w : World} {base m c : Nat} {B : Option Addr} {l : List UInt8} {x : Nat} (hx : x < 256) (h : w.ownsRow base 5 1 (.slice B m c) m (byteVals l ++ [.int .u8 (x : Int)])) : Bys w base B m c (l ++ [UInt8.ofNat x]) := by
  unfold Bys
  rw [byteVals_snoc, ← u8_val hx]
  exact h
theorem wrap_small6 {p : Nat} (h : p ≤ 1000000) : IntKind.i64.wrap (p : Int) = (p : Int) := by
  unfold IntKind.wrap
  simp [IntKind.bits, IntKind.signed]
  omega
set_option maxRecDepth 100000 in
set_option maxHeartbeats 4000000 in
theorem r06Put (A : Option Addr) (n c : Nat) (l : List UInt8) (N : Nat) (w : World) (hf : Form A n c) (h : BytesIn w A n l) (hm : n ≤ 1000000) (hN : N < 16384) :
    Calls Try.prog 39 #[.slice A n c, .int .i64 N] w fun e w' => ∃ B' m' c', e = .returned (.slice B' m' c') ∧ Bys w' w.heap.size B' m' c' (l ++ numW N) ∧ Below w.heap.size w w' := by
  obtain ⟨i0, hi0, hz0, hz1, hz2⟩ := info_parts byte_info
  have H := Lib.hid h
  have HF := Lib.hid hf
  have d0 : decide ((N : Int) < 0) = false := by simp
  clear h hf
  by_cases h1 : N < 128
  · have hq0 : (N : Int) / 128 = 0 := by omega
    have hr0 : (N : Int) % 128 = (N : Int) := by omega
    have hb0 : (N : Int) % 256 = (N : Int) := by omega
    have hnum := Lib.hid (show numW N = [UInt8.ofNat N] by unfold numW; rw [if_pos h1])
    go_enter Try.func39, Try.ntmps39
    go_upto_block 0 with fail
    go_cut [5] (fun s5 wx => s5 = .int .i64 1 ∧ wx = w)
    case first =>
      go_wp2_with fail
      go_loopw [5] (fun v wx => v = .int .i64 1 ∧ wx = w) (fun _ _ => 0)
      case atStart => exact ⟨rfl, rfl⟩
      case round =>
        obtain ⟨rfl, rfl⟩ := hrel
        go_wp2_with fail
        go_meet
        exact ⟨rfl, rfl⟩
    case rest =>
      obtain ⟨rfl, rfl⟩ := hcut
      obtain ⟨wb, rfl⟩ : ∃ wb : World, wb = wc := ⟨_, rfl⟩
      go_upto_region 6 with fail
      go_cut [6] (fun s6 wy => ∃ X cx, s6 = .slice X n cx ∧ Bys wy wb.heap.size X n cx l ∧ Below wb.heap.size wb wy)
      case first =>
        go_wp2_with (
          (at_builtin
           refine wpList_append_src _ rfl (.tmp 23) (.tmp 24) 29 rfl wb.heap.size 5 i0 _ 1 1 Try.underlying29 hi0 hz0 hz1 hz2 rfl (by omega) _ 0 [] rfl (by exact own_made wb _ 1 rfl (Nat.le_refl _)) A n c (byteVals l) rfl (by rw [byteVals_length, H.out.1, Nat.mul_one]) (fun e => (HF.out.2.2 e).1) (by exact (H.out.below ((Below.refl _ _).alloc (Nat.le_refl _) _)).src) (byteVals_one l) (by simp only [maxLen]; omega) (by omega) (by simp) ?_
           intro v1 w1 hown hgr hat
           have OW := Lib.hid hown
           have GR := Lib.hid hgr
           clear hown hgr hat))
        go_meet
        have hbb : Below wb.heap.size wb w1 := ((Below.refl _ _).alloc (Nat.le_refl _) _).grown GR.out (by simp) (fun q hq => by have h : wb.heap.size = q := Option.some.inj hq; omega)
        have h2 := OW.out
        rw [Nat.zero_add, List.nil_append] at h2
        rcases h2.2 with ⟨rfl, h0⟩ | ⟨g, cap, cur, rfl, _⟩
        · subst h0
          exact ⟨none, 0, rfl, h2, hbb⟩
        · exact ⟨_, cap, rfl, h2, hbb⟩
      case rest =>
        obtain ⟨X, cx, rfl, hby, hbl⟩ := hcut
        have OC := Lib.hid hby
        have BC := Lib.hid hbl
        clear hby hbl H HF
        go_wp2_with fail
        go_loopw [6, 7] (fun v i wx => (i = .int .i64 0 ∧ ∃ X cx, v = .slice X n cx ∧ Bys wx wb.heap.size X n cx l ∧ Below wb.heap.size wb wx) ∨ (i = .int .i64 1 ∧ ∃ X cx, v = .slice X (n + 1) cx ∧ Bys wx wb.heap.size X (n + 1) cx (l ++ [UInt8.ofNat N]) ∧ Below wb.heap.size wb wx)) (fun _ i _ => 1 - (intOf i).toNat)
        case atStart => exact .inl ⟨rfl, X, cx, rfl, OC.out, BC.out⟩
        case round =>
          clear OC BC
          rcases hrel with ⟨rfl, X, cx, rfl, hby, hbl⟩ | ⟨rfl, X, cx, rfl, hby, hbl⟩
          · obtain ⟨wo, rfl⟩ : ∃ wo : World, wo = wr := ⟨_, rfl⟩
            have OW := Lib.hid hby
            have BL := Lib.hid hbl
            have hz := hbl.size
            clear hby hbl
            go_wp2_with (
              (at_builtin
               refine wpList_append_form _ rfl (.tmp 43) (.tmp 46) 29 rfl wb.heap.size 5 i0 _ 1 1 Try.underlying29 hi0 hz0 hz1 hz2 rfl (by omega) _ n (byteVals l) rfl (by exact OW.out.alloc _) (some ⟨wo.heap.size, 0, none⟩) 1 1 [.int .u8 (N : Int)] rfl rfl (fun e => by cases e) (by exact src_new _ _ _ _) (by intro u hu; simp only [List.mem_cons, List.not_mem_nil, or_false] at hu; subst hu; rfl) (by omega) (by simp only [maxLen]; omega) (by omega) (by simp; omega) ?_
               intro g2 cap w4 hown4 hg4 hat4 hlt4
               have O4 := Lib.hid hown4
               have G4 := Lib.hid hg4
               clear hown4 hg4 hat4))
            go_roundw
            case rel => exact (.inr ⟨rfl, _, cap, rfl, bys_snoc (by omega) O4.out, (BL.out.alloc (by exact hz) _).grown G4.out (by simp; omega) (fun y hy => (OW.out.lt y hy).1)⟩)
            case measure => simp [intOf]
          · obtain ⟨wo, rfl⟩ : ∃ wo : World, wo = wr := ⟨_, rfl⟩
            have OW := Lib.hid hby
            have BL := Lib.hid hbl
            have hz := hbl.size
            clear hby hbl
            go_wp2_with fail
            go_ret
            exact ⟨X, n + 1, cx, rfl, by rw [hnum.out]; exact OW.out, BL.out⟩
  · obtain ⟨q, r, hq, hr, hq0, hr0, hq14, hqm, hql, hrl⟩ : ∃ q r : Nat, N / 128 = q ∧ N % 128 = r ∧ (N : Int) / 128 = (q : Int) ∧ (N : Int) % 128 = (r : Int) ∧ (N : Int) / 16384 = 0 ∧ (q : Int) % 128 = (q : Int) ∧ q < 128 ∧ r < 128 := ⟨N / 128, N % 128, rfl, rfl, by omega, by omega, by omega, by omega, by omega, by omega⟩
    obtain ⟨r2, hr2⟩ : ∃ r2 : Nat, r + 128 = r2 := ⟨_, rfl⟩
    have hr2I : (r : Int) + 128 = (r2 : Int) := by omega
    have hw64 : IntKind.i64.wrap ((r : Int) + 128) = (r2 : Int) := by rw [hr2I]; exact wrap_small6 (by omega)
    have hb0 : (r2 : Int) % 256 = (r2 : Int) := by omega
    have hb1 : (q : Int) % 256 = (q : Int) := by omega
    have hqp : decide ((0 : Int) < (q : Int)) = true := by simp; omega
    have hqp2 : decide (0 < q) = true := by simp; omega
    have hr256 : r2 < 256 := by omega
    have hnum := Lib.hid (show numW N = [UInt8.ofNat r2, UInt8.ofNat q] by unfold numW; rw [if_neg h1, hq, hr, hr2])
    clear hq hr hr2 hr2I
    go_enter Try.func39, Try.ntmps39
    go_upto_block 0 with fail
    go_cut [5] (fun s5 wx => s5 = .int .i64 2 ∧ wx = w)
    case first =>
      go_wp2_with fail
      go_loopw [5] (fun v wx => (v = .int .i64 1 ∨ v = .int .i64 2) ∧ wx = w) (fun v _ => 2 - (intOf v).toNat)
      case atStart => exact ⟨.inl rfl, rfl⟩
      case round =>
        obtain ⟨hv, rfl⟩ := hrel
        rcases hv with rfl | rfl
        · go_wp2_with fail
          go_roundw
          case rel => exact ⟨.inr rfl, trivial⟩
          case measure => simp [intOf]
        · go_wp2_with fail
          go_meet
          exact ⟨rfl, rfl⟩
    case rest =>
      obtain ⟨rfl, rfl⟩ := hcut
      obtain ⟨wb, rfl⟩ : ∃ wb : World, wb = wc := ⟨_, rfl⟩
      go_upto_region 6 with fail
      go_cut [6] (fun s6 wy => ∃ X cx, s6 = .slice X n cx ∧ Bys wy wb.heap.size X n cx l ∧ Below wb.heap.size wb wy)
      case first =>
        go_wp2_with (
          (at_builtin
           refine wpList_append_src _ rfl (.tmp 23) (.tmp 24) 29 rfl wb.heap.size 5 i0 _ 1 1 Try.underlying29 hi0 hz0 hz1 hz2 rfl (by omega) _ 0 [] rfl (by exact own_made wb _ 1 rfl (Nat.le_refl _)) A n c (byteVals l) rfl (by rw [byteVals_length, H.out.1, Nat.mul_one]) (fun e => (HF.out.2.2 e).1) (by exact (H.out.below ((Below.refl _ _).alloc (Nat.le_refl _) _)).src) (byteVals_one l) (by simp only [maxLen]; omega) (by omega) (by simp) ?_
           intro v1 w1 hown hgr hat
           have OW := Lib.hid hown
           have GR := Lib.hid hgr
           clear hown hgr hat))
        go_meet
        have hbb : Below wb.heap.size wb w1 := ((Below.refl _ _).alloc (Nat.le_refl _) _).grown GR.out (by simp) (fun q hq => by have h : wb.heap.size = q := Option.some.inj hq; omega)
        have h2 := OW.out
        rw [Nat.zero_add, List.nil_append] at h2
        rcases h2.2 with ⟨rfl, h0⟩ | ⟨g, cap, cur, rfl, _⟩
        · subst h0
          exact ⟨none, 0, rfl, h2, hbb⟩
        · exact ⟨_, cap, rfl, h2, hbb⟩
      case rest =>
        obtain ⟨X, cx, rfl, hby, hbl⟩ := hcut
        have OC := Lib.hid hby
        have BC := Lib.hid hbl
        clear hby hbl H HF
        go_wp2_with fail
        go_loopw [6, 7] (fun v i wx => (i = .int .i64 0 ∧ ∃ X cx, v = .slice X n cx ∧ Bys wx wb.heap.size X n cx l ∧ Below wb.heap.size wb wx) ∨ (i = .int .i64 1 ∧ ∃ X cx, v = .slice X (n + 1) cx ∧ Bys wx wb.heap.size X (n + 1) cx (l ++ [UInt8.ofNat r2]) ∧ Below wb.heap.size wb wx) ∨ (i = .int .i64 2 ∧ ∃ X cx, v = .slice X (n + 2) cx ∧ Bys wx wb.heap.size X (n + 2) cx (l ++ [UInt8.ofNat r2, UInt8.ofNat q]) ∧ Below wb.heap.size wb wx)) (fun _ i _ => 2 - (intOf i).toNat)
        case atStart => exact .inl ⟨rfl, X, cx, rfl, OC.out, BC.out⟩
        case round =>
          clear OC BC
          rcases hrel with ⟨rfl, X, cx, rfl, hby, hbl⟩ | ⟨rfl, X, cx, rfl, hby, hbl⟩ | ⟨rfl, X, cx, rfl, hby, hbl⟩
          · obtain ⟨wo, rfl⟩ : ∃ wo : World, wo = wr := ⟨_, rfl⟩
            have OW := Lib.hid hby
            have BL := Lib.hid hbl
            have hz := hbl.size
            clear hby hbl
            go_wp2_with (
              (at_builtin
               refine wpList_append_form _ rfl (.tmp 43) (.tmp 46) 29 rfl wb.heap.size 5 i0 _ 1 1 Try.underlying29 hi0 hz0 hz1 hz2 rfl (by omega) _ n (byteVals l) rfl (by exact OW.out.alloc _) (some ⟨wo.heap.size, 0, none⟩) 1 1 [.int .u8 (r2 : Int)] rfl rfl (fun e => by cases e) (by exact src_new _ _ _ _) (by intro u hu; simp only [List.mem_cons, List.not_mem_nil, or_false] at hu; subst hu; rfl) (by omega) (by simp only [maxLen]; omega) (by omega) (by simp; omega) ?_
               intro g2 cap w4 hown4 hg4 hat4 hlt4
               have O4 := Lib.hid hown4
               have G4 := Lib.hid hg4
               clear hown4 hg4 hat4))
            go_roundw
            case rel => exact (.inr (.inl ⟨rfl, _, cap, rfl, bys_snoc (by omega) O4.out, (BL.out.alloc (by exact hz) _).grown G4.out (by simp; omega) (fun y hy => (OW.out.lt y hy).1)⟩))
            case measure => simp [intOf]
          · obtain ⟨wo, rfl⟩ : ∃ wo : World, wo = wr := ⟨_, rfl⟩
            have OW := Lib.hid hby
            have BL := Lib.hid hbl
            have hz := hbl.size
            clear hby hbl
            go_wp2_with (
              (at_builtin
               refine wpList_append_form _ rfl (.tmp 43) (.tmp 46) 29 rfl wb.heap.size 5 i0 _ 1 1 Try.underlying29 hi0 hz0 hz1 hz2 rfl (by omega) _ (n + 1) (byteVals (l ++ [UInt8.ofNat r2])) rfl (by exact OW.out.alloc _) (some ⟨wo.heap.size, 0, none⟩) 1 1 [.int .u8 (q : Int)] rfl rfl (fun e => by cases e) (by exact src_new _ _ _ _) (by intro u hu; simp only [List.mem_cons, List.not_mem_nil, or_false] at hu; subst hu; rfl) (by omega) (by simp only [maxLen]; omega) (by omega) (by simp; omega) ?_
               intro g2 cap w4 hown4 hg4 hat4 hlt4
               have O4 := Lib.hid hown4
               have G4 := Lib.hid hg4
               clear hown4 hg4 hat4))
            go_roundw
            case rel => exact (.inr (.inr ⟨rfl, _, cap, rfl, by have h := bys_snoc (x := q) (by omega) O4.out; rw [List.append_assoc] at h; exact h, (BL.out.alloc (by exact hz) _).grown G4.out (by simp; omega) (fun y hy => (OW.out.lt y hy).1)⟩))
            case measure => simp [intOf]
          · obtain ⟨wo, rfl⟩ : ∃ wo : World, wo = wr := ⟨_, rfl⟩
            have OW := Lib.hid hby
            have BL := Lib.hid hbl
            have hz := hbl.size
            clear hby hbl
            go_wp2_with fail
            go_ret
            exact ⟨X, n + 2, cx, rfl, by rw [hnum.out]; exact OW.out, BL.out⟩
end Go.Proofs.Ytgkgieemdjbhpaa
