/- Which drive takes a cartridge. No condition beyond those that each theorem states. -/
import Derived.Test.YtiiilimmjoadeaaL2
import Derived.BigQuiet
namespace Go.Proofs.Ytiiilimmjoadeaa
open Go.RowKit

def better (d b : DV) : Bool := (decide (d.cart < 0) && decide (0 ≤ b.cart)) || ((decide (d.cart < 0) == decide (b.cart < 0)) && decide (d.last < b.last))
def freeK (ds : List DV) : Nat → Option Nat
  | 0 => none
  | k + 1 => match ds[k]? with
    | none => freeK ds k
    | some d => if d.broken then freeK ds k else match freeK ds k with
      | none => some k
      | some b => match ds[b]? with
        | none => some b
        | some e => if better d e then some k else some b
def freeI (ds : List DV) : Option Nat := freeK ds ds.length
theorem freeK_lt {ds : List DV} : ∀ {k b : Nat}, freeK ds k = some b → b < k ∧ ∃ d, ds[b]? = some d ∧ d.broken = false := by
  intro k
  induction k with
  | zero => intro b h; cases h
  | succ k ih =>
    intro b h
    unfold freeK at h
    have old : freeK ds k = some b → b < k + 1 ∧ ∃ d, ds[b]? = some d ∧ d.broken = false := fun h => ⟨by have := (ih h).1; omega, (ih h).2⟩
    split at h
    · exact old h
    · rename_i d hd
      split at h
      · exact old h
      · rename_i hbr
        have new : k = b → b < k + 1 ∧ ∃ d, ds[b]? = some d ∧ d.broken = false := fun e => by subst e; exact ⟨by omega, d, hd, by simpa using hbr⟩
        split at h
        · exact new (Option.some.inj h)
        · rename_i b' hb'
          split at h
          · exact old (by rw [hb']; exact h)
          · split at h
            · exact new (Option.some.inj h)
            · exact old (by rw [hb']; exact h)

set_option maxHeartbeats 2000000 in
theorem lFree (own : Nat → Nat) (w : World) (lp : Nat) (cv dv : Value) (L : LV) (h : LCore own w lp cv dv L) :
    Calls Try.prog 52 #[.pointer (some ⟨lp, 0, none⟩)] w fun e w' => e = .returned (slotV dv (freeI L.drives)) ∧ ∃ n, w' = w.drewN n := by
  have c0 : w.cell? ⟨lp, 1, none⟩ = some dv := h.blk.cell 1
  have hfm := h.rd.form
  have hfour := h.four
  have H := Lib.hid h
  clear h
  rcases hfm with ⟨rfl, h0⟩ | ⟨g, cap, rfl, _, _, _, _⟩
  · have e1 : freeI L.drives = none := by rw [List.eq_nil_of_length_eq_zero h0]; rfl
    rw [e1]
    clear e1 h0
    go_enter Try.func52, Try.ntmps52
    go_wp2_with fail
    go_loop [3, 11] (fun b i => b = .pointer none ∧ i = .int .i64 0) (fun _ _ => 0)
    case atStart => exact ⟨rfl, rfl⟩
    case round =>
      obtain ⟨rfl, rfl⟩ := hrel
      go_wp2_with fail
      go_ret
      exact ⟨rfl, 0, rfl⟩
  · have k0 : ∀ i d, L.drives[i]? = some d → w.cell? ⟨g, i * 4, none⟩ = some (.int .i64 d.cart) := fun i d hd => H.out.drive_cell rfl hd (q := 0) (by decide) rfl
    have k2 : ∀ i d, L.drives[i]? = some d → w.cell? ⟨g, i * 4 + 2, none⟩ = some (.int .i64 d.last) := fun i d hd => H.out.drive_cell rfl hd (q := 2) (by decide) rfl
    have k3 : ∀ i d, L.drives[i]? = some d → w.cell? ⟨g, i * 4 + 3, none⟩ = some (.bool d.broken) := fun i d hd => H.out.drive_cell rfl hd (q := 3) (by decide) rfl
    have K0 := Lib.hid k0
    have K2 := Lib.hid k2
    have K3 := Lib.hid k3
    clear k0 k2 k3
    go_enter Try.func52, Try.ntmps52
    go_wp2_with fail
    go_loopw [3, 11] (fun b i wx => ∃ k n : Nat, k ≤ L.drives.length ∧ i = .int .i64 k ∧ b = slotV (.slice (some ⟨g, 0, none⟩) L.drives.length cap) (freeK L.drives k) ∧ wx = w.drewN n) (fun _ i _ => L.drives.length - (intOf i).toNat)
    case atStart => exact ⟨0, 0, by omega, rfl, rfl, rfl⟩
    case round =>
      obtain ⟨k, nd, hk, rfl, rfl, rfl⟩ := hrel
      by_cases hlt : k < L.drives.length
      · obtain ⟨D, hD⟩ : ∃ D, L.drives[k]? = some D := ⟨_, List.getElem?_eq_getElem hlt⟩
        have a0 : ∀ n, (w.drewN n).cell? ⟨g, k * 4, none⟩ = some (.int .i64 D.cart) := fun n => K0.out k D hD
        have a2 : ∀ n, (w.drewN n).cell? ⟨g, k * 4 + 2, none⟩ = some (.int .i64 D.last) := fun n => K2.out k D hD
        have a3 : ∀ n, (w.drewN n).cell? ⟨g, k * 4 + 3, none⟩ = some (.bool D.broken) := fun n => K3.out k D hD
        have aa : ∀ n, (w.drewN n).cell? ⟨lp, 1, none⟩ = some (.slice (some ⟨g, 0, none⟩) L.drives.length cap) := fun n => c0
        have d1 : decide (k < L.drives.length) = true := by simpa using hlt
        cases hbr : D.broken with
        | true =>
          have e1 : freeK L.drives (k + 1) = freeK L.drives k := by rw [freeK, hD]; simp [hbr]
          rw [hbr] at a3
          have E1 := Lib.hid e1
          clear e1 hbr hD a0 a2
          go_wp2_with fail
          go_roundw
          case rel => exact ⟨k + 1, nd, hlt, by go_num, by rw [E1.out], rfl⟩
          case measure => simp [intOf]; omega
        | false =>
          rw [hbr] at a3
          rcases hf : freeK L.drives k with _ | b
          · have e1 : freeK L.drives (k + 1) = some k := by rw [freeK, hD]; simp [hbr, hf]
            have E1 := Lib.hid e1
            clear e1 hbr hD hf
            simp only [slotV]
            go_wp2_with fail
            go_roundw
            case rel => exact ⟨k + 1, nd, hlt, by go_num, (by first | (rw [E1.out]; done) | (rw [E1.out]; rfl)), rfl⟩
            case measure => simp [intOf]; omega
          · obtain ⟨hbk, B, hB, hBb⟩ := freeK_lt hf
            have b0 : ∀ n, (w.drewN n).cell? ⟨g, b * 4, none⟩ = some (.int .i64 B.cart) := fun n => K0.out b B hB
            have b2 : ∀ n, (w.drewN n).cell? ⟨g, b * 4 + 2, none⟩ = some (.int .i64 B.last) := fun n => K2.out b B hB
            have e1 : freeK L.drives (k + 1) = if better D B then some k else some b := by rw [freeK, hD]; simp [hbr, hf, hB]
            have E1 := Lib.hid e1
            clear e1 hbr hD hf hB hBb
            simp only [slotV]
            by_cases x1 : D.cart < 0
            · have x1' : decide (D.cart < 0) = true := by simpa using x1
              by_cases x2 : B.cart < 0
              · have x2' : decide (B.cart < 0) = true := by simpa using x2
                have x4' : decide (0 ≤ B.cart) = false := by simpa using x2
                by_cases x3 : D.last < B.last
                · have x3' : decide (D.last < B.last) = true := by simpa using x3
                  have e2 : better D B = true := by simp [better, x1', x2', x3']
                  rw [e2] at E1
                  clear e2 x1 x2 x3
                  go_wp2_with fail
                  go_quiet (fail)
                  go_wp2_with fail
                  go_roundw
                  case rel => exact ⟨k + 1, _, hlt, by go_num, by rw [E1.out]; rfl, rfl⟩
                  case measure => simp [intOf]; omega
                · have x3' : decide (D.last < B.last) = false := by simpa using x3
                  have e2 : better D B = false := by simp [better, x1', x2', x3', x4']
                  rw [e2] at E1
                  clear e2 x1 x2 x3
                  go_wp2_with fail
                  go_quiet (fail)
                  go_wp2_with fail
                  go_roundw
                  case rel => exact ⟨k + 1, _, hlt, by go_num, by rw [E1.out]; rfl, rfl⟩
                  case measure => simp [intOf]; omega
              · have x2' : decide (B.cart < 0) = false := by simpa using x2
                have x4' : decide (0 ≤ B.cart) = true := by simpa using x2
                have e2 : better D B = true := by simp [better, x1', x4']
                rw [e2] at E1
                clear e2 x1 x2
                go_wp2_with fail
                go_roundw
                case rel => exact ⟨k + 1, _, hlt, by go_num, by rw [E1.out]; rfl, rfl⟩
                case measure => simp [intOf]; omega
            · have x1' : decide (D.cart < 0) = false := by simpa using x1
              by_cases x2 : B.cart < 0
              · have x2' : decide (B.cart < 0) = true := by simpa using x2
                have e2 : better D B = false := by simp [better, x1', x2']
                rw [e2] at E1
                clear e2 x1 x2
                go_wp2_with fail
                go_quiet (fail)
                go_wp2_with fail
                go_roundw
                case rel => exact ⟨k + 1, _, hlt, by go_num, by rw [E1.out]; rfl, rfl⟩
                case measure => simp [intOf]; omega
              · have x2' : decide (B.cart < 0) = false := by simpa using x2
                by_cases x3 : D.last < B.last
                · have x3' : decide (D.last < B.last) = true := by simpa using x3
                  have e2 : better D B = true := by simp [better, x1', x2', x3']
                  rw [e2] at E1
                  clear e2 x1 x2 x3
                  go_wp2_with fail
                  go_quiet (fail)
                  go_wp2_with fail
                  go_roundw
                  case rel => exact ⟨k + 1, _, hlt, by go_num, by rw [E1.out]; rfl, rfl⟩
                  case measure => simp [intOf]; omega
                · have x3' : decide (D.last < B.last) = false := by simpa using x3
                  have e2 : better D B = false := by simp [better, x1', x2', x3']
                  rw [e2] at E1
                  clear e2 x1 x2 x3
                  go_wp2_with fail
                  go_quiet (fail)
                  go_wp2_with fail
                  go_roundw
                  case rel => exact ⟨k + 1, _, hlt, by go_num, by rw [E1.out]; rfl, rfl⟩
                  case measure => simp [intOf]; omega
      · have e1 : freeK L.drives k = freeI L.drives := by rw [show k = L.drives.length by omega]; rfl
        have d1 : decide (k < L.drives.length) = false := by simpa using hlt
        rw [e1]
        clear e1
        go_wp2_with fail
        go_ret
        exact ⟨rfl, nd, rfl⟩
end Go.Proofs.Ytiiilimmjoadeaa
