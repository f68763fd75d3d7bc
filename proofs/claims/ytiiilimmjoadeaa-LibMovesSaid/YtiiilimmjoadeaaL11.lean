/- What the methods of a library do, by the blocks that it owns; and those of no library. No condition beyond those that each theorem states. -/
import Derived.Test.YtiiilimmjoadeaaL10
import Derived.Test.YtiiilimmjoadeaaCa9
namespace Go.Proofs.Ytiiilimmjoadeaa
open Go.RowKit

def workM (L : LV) : Int := ((L.drives.filter fun d => !d.broken).length : Nat)
theorem take_succ_filter {ds : List DV} {k : Nat} {d : DV} (h : ds[k]? = some d) : ((ds.take (k + 1)).filter fun d => !d.broken).length = ((ds.take k).filter fun d => !d.broken).length + (if d.broken then 0 else 1) := by
  rw [List.take_add_one, h, List.filter_append, List.length_append]
  cases hb : d.broken <;> simp [hb]
set_option maxHeartbeats 1000000 in
theorem lWorking (own : Nat → Nat) (w : World) (lp : Nat) (cv dv : Value) (L : LV) (h : LCore own w lp cv dv L) :
    Calls Try.prog 37 #[.pointer (some ⟨lp, 0, none⟩)] w fun e w' => e = .returned (.int .i64 (workM L)) ∧ Below w.heap.size w w' := by
  have H := Lib.hid h
  have hfour := h.four
  clear h
  go_enter Try.func37, Try.ntmps37
  go_wp2_with (go_at_call 36; refine (lDrives own w lp cv dv L H.out).mono ?_; rintro e w1 ⟨rfl, rfl⟩)
  go_loopw [3, 10] (fun n i wx => ∃ k : Nat, k ≤ L.drives.length ∧ i = .int .i64 k ∧ n = .int .i64 (((L.drives.take k).filter fun d => !d.broken).length : Nat) ∧ Below w.heap.size w wx) (fun _ i _ => L.drives.length - (intOf i).toNat)
  case atStart => exact ⟨0, by omega, rfl, by simp, Below.refl _ _⟩
  case round =>
    obtain ⟨k, hk, rfl, rfl, hbw⟩ := hrel
    have HBW := Lib.hid hbw
    clear hbw
    have hle : ((L.drives.take k).filter fun d => !d.broken).length ≤ 4 := Nat.le_trans (List.length_filter_le _ _) (by rw [List.length_take]; omega)
    generalize hc : ((L.drives.take k).filter fun d => !d.broken).length = c at hle
    have HC := Lib.hid hc
    clear hc
    by_cases hlt : k < L.drives.length
    · have hD : L.drives[k]? = some L.drives[k] := List.getElem?_eq_getElem hlt
      have d1 : decide (k < L.drives.length) = true := by simpa using hlt
      have e1 : (driveM L (k : Int)).2.2 = !L.drives[k].broken := by
        unfold driveM
        rw [if_pos (by omega), Int.toNat_natCast, hD]
        simp only
        split <;> simp_all
      have e2 := take_succ_filter hD
      cases hbr : L.drives[k].broken with
      | true =>
        rw [hbr] at e1 e2
        have E1 := Lib.hid e1
        have E2 := Lib.hid e2
        clear e1 e2 hD hbr
        go_wp2_with (
          (go_at_call 31
           refine (lDrive own _ lp cv dv L (k : Int) (H.out.below HBW.out)).mono ?_
           rintro e w1 ⟨rfl, hb1⟩
           rw [E1.out]))
        go_roundw
        case rel => exact ⟨k + 1, hlt, by go_num, by rw [E2.out, HC.out]; rfl, HBW.out.trans (hb1.mono HBW.out.size)⟩
        case measure => simp [intOf]; omega
      | false =>
        rw [hbr] at e1 e2
        have E1 := Lib.hid e1
        have E2 := Lib.hid e2
        clear e1 e2 hD hbr
        go_wp2_with (
          (go_at_call 31
           refine (lDrive own _ lp cv dv L (k : Int) (H.out.below HBW.out)).mono ?_
           rintro e w1 ⟨rfl, hb1⟩
           rw [E1.out]))
        go_roundw
        case rel => exact ⟨k + 1, hlt, by go_num, by rw [E2.out, HC.out]; exact int_val (by go_num), HBW.out.trans (hb1.mono HBW.out.size)⟩
        case measure => simp [intOf]; omega
    · have d1 : decide (k < L.drives.length) = false := by simpa using hlt
      go_wp2_with fail
      go_ret
      exact ⟨int_ret (by rw [← HC.out, List.take_of_length_le (by omega)]; rfl), HBW.out⟩
end Go.Proofs.Ytiiilimmjoadeaa
