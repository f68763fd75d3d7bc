/- Which drive has a cartridge, and which takes one. No condition beyond those that each theorem states. -/
import Derived.Test.YtiiilimmjoadeaaL1
import Derived.IntWalk
import Derived.Outline
namespace Go.Proofs.Ytiiilimmjoadeaa
open Go.RowKit

def hasD (n : Int) (d : DV) : Bool := !d.broken && d.cart == n
def withI (ds : List DV) (n : Int) : Option Nat := ds.findIdx? (hasD n)
/-- A drive's place, as a value. -/
def slotV (dv : Value) : Option Nat → Value
  | none => .pointer none
  | some i => match dv with
    | .slice (some a) _ _ => .pointer (some ⟨a.block, i * 4, none⟩)
    | _ => .pointer none

theorem withI_none {ds : List DV} {n : Int} (h : ∀ (j : Nat) (d : DV), ds[j]? = some d → hasD n d = false) : withI ds n = none := by
  unfold withI
  rw [List.findIdx?_eq_none_iff]
  intro d hd
  obtain ⟨j, hj⟩ := List.mem_iff_getElem?.1 hd
  exact h j d hj
theorem withI_some {ds : List DV} {n : Int} {k : Nat} {d : DV} (hd : ds[k]? = some d) (hp : hasD n d = true) (h : ∀ (j : Nat) (d : DV), j < k → ds[j]? = some d → hasD n d = false) : withI ds n = some k := by
  unfold withI
  rw [List.findIdx?_eq_some_iff_getElem]
  obtain ⟨hk, rfl⟩ := List.getElem?_eq_some_iff.1 hd
  refine ⟨hk, hp, fun j hj => ?_⟩
  rw [h j ds[j] hj (List.getElem?_eq_getElem (by omega))]
  simp

set_option maxHeartbeats 1000000 in
theorem lWith (own : Nat → Nat) (w : World) (lp : Nat) (cv dv : Value) (L : LV) (n : Int) (h : LCore own w lp cv dv L) :
    Calls Try.prog 51 #[.pointer (some ⟨lp, 0, none⟩), .int .i64 n] w fun e w' => e = .returned (slotV dv (withI L.drives n)) ∧ w = w' := by
  have c0 : w.cell? ⟨lp, 1, none⟩ = some dv := h.blk.cell 1
  have hfm := h.rd.form
  have hfour := h.four
  have H := Lib.hid h
  clear h
  rcases hfm with ⟨rfl, h0⟩ | ⟨g, cap, rfl, _, _, _, _⟩
  · have e1 : withI L.drives n = none := by rw [List.eq_nil_of_length_eq_zero h0]; rfl
    rw [e1]
    clear e1 h0
    go_enter Try.func51, Try.ntmps51
    go_wp2_with fail
    go_loop [11] (fun i => i = .int .i64 0) (fun _ => 0)
    case atStart => rfl
    case round =>
      subst hrel
      go_wp2_with fail
      go_ret
      exact ⟨rfl, rfl⟩
  · go_enter Try.func51, Try.ntmps51
    go_wp2_with fail
    go_loop [11] (fun i => ∃ k : Nat, k ≤ L.drives.length ∧ i = .int .i64 k ∧ ∀ j d, j < k → L.drives[j]? = some d → hasD n d = false) (fun i => L.drives.length - (intOf i).toNat)
    case atStart => exact ⟨0, by omega, rfl, fun j d hj => by omega⟩
    case round =>
      obtain ⟨k, hk, rfl, hno⟩ := hrel
      have HNO := Lib.hid hno
      clear hno
      by_cases hlt : k < L.drives.length
      · obtain ⟨D, hD⟩ : ∃ D, L.drives[k]? = some D := ⟨_, List.getElem?_eq_getElem hlt⟩
        have k0 : w.cell? ⟨g, k * 4, none⟩ = some (.int .i64 D.cart) := H.out.drive_cell rfl hD (q := 0) (by decide) rfl
        have k3 : w.cell? ⟨g, k * 4 + 3, none⟩ = some (.bool D.broken) := H.out.drive_cell rfl hD (q := 3) (by decide) rfl
        have HD := Lib.hid hD
        have d1 : decide (k < L.drives.length) = true := by simpa using hlt
        clear hD
        rcases D with ⟨ca, po, la, br⟩
        simp only at k0 k3
        cases br with
        | true =>
          go_wp2_with fail
          go_round
          case rel => exact ⟨k + 1, hlt, by go_num, fun j d hj hd => by
            by_cases hjk : j = k
            · subst hjk
              rw [HD.out] at hd
              injection hd with hd
              subst hd
              rfl
            · exact HNO.out j d (by omega) hd⟩
          case measure => simp [intOf]; omega
        | false =>
          by_cases hca : ca = n
          · subst hca
            go_wp2_with fail
            go_ret
            exact ⟨ptr_ret (by rw [withI_some HD.out (by simp [hasD]) HNO.out]; rfl), rfl⟩
          · have hcn : (ca == n) = false := by simpa using hca
            go_wp2_with fail
            go_round
            case rel => exact ⟨k + 1, hlt, by go_num, fun j d hj hd => by
              by_cases hjk : j = k
              · subst hjk
                rw [HD.out] at hd
                injection hd with hd
                subst hd
                simp [hasD, hcn]
              · exact HNO.out j d (by omega) hd⟩
            case measure => simp [intOf]; omega
      · have d1 : decide (k < L.drives.length) = false := by simpa using hlt
        go_wp2_with fail
        go_ret
        exact ⟨ptr_ret (by rw [withI_none (fun j d hd => HNO.out j d (by have := (List.getElem?_eq_some_iff.1 hd).1; omega) hd)]; rfl), rfl⟩
end Go.Proofs.Ytiiilimmjoadeaa
