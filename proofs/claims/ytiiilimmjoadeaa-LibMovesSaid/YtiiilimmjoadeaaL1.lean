/- A library of cartridges, as plain data: what its methods that only look answer. No condition beyond those that each theorem states. -/
import Derived.Test.YtiiilimmjoadeaaS2
import Derived.Test.YtiiilimmjoadeaaR2
import Derived.Deep.DeepCutAuto
import Derived.Deep.CutBlock
namespace Go.Proofs.Ytiiilimmjoadeaa
open Go.RowKit

/-- A cartridge of a library. -/
structure CV where
  p : Nat
  M : Recs
  most : Int
  lost : Bool
/-- A drive. -/
structure DV where
  cart : Int
  pos : Int
  last : Int
  broken : Bool
structure LV where
  carts : List CV
  drives : List DV
  now : Int
def ptrs (cs : List CV) : List Value := cs.map fun c => .pointer (some ⟨c.p, 0, none⟩)
theorem ptrs_length (cs : List CV) : (ptrs cs).length = cs.length := by simp [ptrs]
theorem ptrs_get {cs : List CV} {i : Nat} {c : CV} (h : cs[i]? = some c) : (ptrs cs)[i]? = some (.pointer (some ⟨c.p, 0, none⟩)) := by simp [ptrs, h]
def drVals (d : DV) : List Value := [.int .i64 d.cart, .int .i64 d.pos, .int .i64 d.last, .bool d.broken]
theorem drVals_length (d : DV) : (drVals d).length = 4 := rfl
def drvs (ds : List DV) : List Value := ds.flatMap drVals
theorem drvs_length (ds : List DV) : (drvs ds).length = ds.length * 4 := flat_length drVals_length ds

/-- The library's own blocks are 1's, cartridge i's are (i + 10)'s. -/
structure LCore (own : Nat → Nat) (w : World) (lp : Nat) (cv dv : Value) (L : LV) : Prop where
  blk : Blk w lp 91 #[cv, dv, .int .i64 L.now]
  lab : own lp = 1
  rc : OwnRow (fun k => own k = 1) w 23 1 cv L.carts.length (ptrs L.carts)
  rd : OwnRow (fun k => own k = 1) w 93 4 dv L.drives.length (drvs L.drives)
  cs : ∀ i C, L.carts[i]? = some C → COwn (fun k => own k = i + 10) w C.p C.M C.most C.lost
  few : L.carts.length ≤ 32
  four : L.drives.length ≤ 4
def LOwn (F : Nat → Prop) (w : World) (lp : Nat) (L : LV) : Prop := ∃ own cv dv, (∀ k, own k ≠ 0 → F k) ∧ LCore own w lp cv dv L

theorem LCore.keep {own : Nat → Nat} {w w' : World} {lp : Nat} {cv dv : Value} {L : LV} (h : LCore own w lp cv dv L) (hz : w.heap.size ≤ w'.heap.size) (hk : ∀ k, k < w.heap.size → own k ≠ 0 → w'.heap[k]? = w.heap[k]?) : LCore own w' lp cv dv L :=
  ⟨h.blk.of_eq (hk lp h.blk.size (by rw [h.lab]; decide)), h.lab, (OwnRow.owning _ _ _ _ _).keep _ _ _ h.rc hz (fun k hk1 hf => hk k hk1 (by rw [hf]; decide)), (OwnRow.owning _ _ _ _ _).keep _ _ _ h.rd hz (fun k hk1 hf => hk k hk1 (by rw [hf]; decide)),
    fun i C hC => (COwn.owning _ _ _ _).keep _ _ _ (h.cs i C hC) hz (fun k hk1 hf => hk k hk1 (by rw [hf]; omega)), h.few, h.four⟩
theorem LCore.below {own : Nat → Nat} {w w' : World} {lp : Nat} {cv dv : Value} {L : LV} (h : LCore own w lp cv dv L) (hb : Below w.heap.size w w') : LCore own w' lp cv dv L := h.keep hb.size (fun k hk _ => hb.block k hk)
theorem LOwn.owning (lp : Nat) (L : LV) : Owning fun F w => LOwn F w lp L where
  mono := by
    rintro F G w ⟨own, cv, dv, h1, h2⟩ hs
    have e : ∀ k, k < w.heap.size → (if k < w.heap.size then own k else 0) = own k := fun k hk => if_pos hk
    refine ⟨fun k => if k < w.heap.size then own k else 0, cv, dv, fun k hk => ?_, h2.blk, ?_, ?_, ?_, ?_, h2.few, h2.four⟩
    · replace hk : (if k < w.heap.size then own k else 0) ≠ 0 := hk
      split at hk
      · rename_i hlt
        exact hs k hlt (h1 k hk)
      · exact absurd rfl hk
    · exact (e lp h2.blk.size).trans h2.lab
    · exact (OwnRow.owning _ _ _ _ _).mono _ _ _ h2.rc (fun k hk hf => (e k hk).trans hf)
    · exact (OwnRow.owning _ _ _ _ _).mono _ _ _ h2.rd (fun k hk hf => (e k hk).trans hf)
    · exact fun i C hC => (COwn.owning _ _ _ _).mono _ _ _ (h2.cs i C hC) (fun k hk hf => (e k hk).trans hf)
  keep := fun _ _ _ ⟨own, cv, dv, h1, h2⟩ hz hk => ⟨own, cv, dv, h1, h2.keep hz (fun k hk1 hf => hk k hk1 (h1 k hf))⟩

section
variable {own : Nat → Nat} {w : World} {lp : Nat} {cv dv : Value} {L : LV}
theorem LCore.drive_cell (h : LCore own w lp cv dv L) {g cap : Nat} (hv : dv = .slice (some ⟨g, 0, none⟩) L.drives.length cap) {i q : Nat} {d : DV} {u : Value} (hd : L.drives[i]? = some d) (hq : q < 4) (hu : (drVals d)[q]? = some u) : w.cell? ⟨g, i * 4 + q, none⟩ = some u := by
  subst hv
  exact own_cell h.rd.1 (by rw [drvs, flat_get drVals_length hd hq]; exact hu)
theorem LCore.cart_cell (h : LCore own w lp cv dv L) {g cap : Nat} (hv : cv = .slice (some ⟨g, 0, none⟩) L.carts.length cap) {i : Nat} {c : CV} (hc : L.carts[i]? = some c) : w.cell? ⟨g, i, none⟩ = some (.pointer (some ⟨c.p, 0, none⟩)) := by
  subst hv
  exact own_cell h.rc.1 (ptrs_get hc)
end

/-- Where a cartridge is; nil: there is none. -/
def cartV (L : LV) (n : Int) : Value := if 0 ≤ n then match L.carts[n.toNat]? with
  | some c => .pointer (some ⟨c.p, 0, none⟩)
  | none => .pointer none
  else .pointer none

theorem ptr_ret {a b : Value} (h : a = b) : Ending.returned a = .returned b := by rw [h]
set_option maxHeartbeats 1000000 in
theorem lCart (own : Nat → Nat) (w : World) (lp : Nat) (cv dv : Value) (L : LV) (n : Int) (h : LCore own w lp cv dv L) :
    Calls Try.prog 34 #[.pointer (some ⟨lp, 0, none⟩), .int .i64 n] w fun e w' => e = .returned (cartV L n) ∧ w = w' := by
  have c0 : w.cell? ⟨lp, 0, none⟩ = some cv := h.blk.cell 0
  have hfm := h.rc.form
  have H := Lib.hid h
  clear h
  by_cases hneg : n < 0
  · have e1 : cartV L n = .pointer none := by unfold cartV; rw [if_neg (by omega)]
    rw [e1]
    clear e1 hfm
    have d1 : decide (n < 0) = true := by simpa using hneg
    go_enter Try.func34, Try.ntmps34
    go_wp2
    go_ret
    exact ⟨rfl, rfl⟩
  · obtain ⟨i, rfl⟩ := Int.eq_ofNat_of_zero_le (show 0 ≤ n by omega)
    have d1 : decide ((i : Int) < 0) = false := by simp
    by_cases hi : i < L.carts.length
    · obtain ⟨C, hC⟩ : ∃ C, L.carts[i]? = some C := ⟨_, List.getElem?_eq_getElem hi⟩
      have e1 : cartV L (i : Int) = .pointer (some ⟨C.p, 0, none⟩) := by unfold cartV; rw [if_pos (by omega), Int.toNat_natCast, hC]
      rw [e1]
      rcases hfm with ⟨_, h0⟩ | ⟨g, cap, rfl, _, _, _, _⟩
      · omega
      have k1 : w.cell? ⟨g, i, none⟩ = some (.pointer (some ⟨C.p, 0, none⟩)) := H.out.cart_cell rfl hC
      have d2 : decide (L.carts.length ≤ i) = false := by simpa using hi
      clear e1 hC
      go_enter Try.func34, Try.ntmps34
      go_wp2
      go_ret
      exact ⟨rfl, rfl⟩
    · have e1 : cartV L (i : Int) = .pointer none := by unfold cartV; rw [if_pos (by omega), Int.toNat_natCast, List.getElem?_eq_none (by omega)]
      rw [e1]
      rcases hfm with ⟨rfl, h0⟩ | ⟨g, cap, rfl, _, _, _, _⟩
      · clear e1 h0
        go_enter Try.func34, Try.ntmps34
        go_wp2
        go_ret
        exact ⟨rfl, rfl⟩
      · have d2 : decide (L.carts.length ≤ i) = true := by simpa using hi
        clear e1
        go_enter Try.func34, Try.ntmps34
        go_wp2
        go_ret
        exact ⟨rfl, rfl⟩
set_option maxHeartbeats 1000000 in
theorem lCarts (own : Nat → Nat) (w : World) (lp : Nat) (cv dv : Value) (L : LV) (h : LCore own w lp cv dv L) :
    Calls Try.prog 35 #[.pointer (some ⟨lp, 0, none⟩)] w fun e w' => e = .returned (.int .i64 L.carts.length) ∧ w = w' := by
  have c0 : w.cell? ⟨lp, 0, none⟩ = some cv := h.blk.cell 0
  rcases h.rc.form with ⟨rfl, h0⟩ | ⟨g, cap, rfl, _, _, _, _⟩
  · rw [h0]
    clear h h0
    go_enter Try.func35, Try.ntmps35
    go_wp2
    go_ret
    exact ⟨rfl, rfl⟩
  · clear h
    go_enter Try.func35, Try.ntmps35
    go_wp2
    go_ret
    exact ⟨rfl, rfl⟩
set_option maxHeartbeats 1000000 in
theorem lDrives (own : Nat → Nat) (w : World) (lp : Nat) (cv dv : Value) (L : LV) (h : LCore own w lp cv dv L) :
    Calls Try.prog 36 #[.pointer (some ⟨lp, 0, none⟩)] w fun e w' => e = .returned (.int .i64 L.drives.length) ∧ w = w' := by
  have c0 : w.cell? ⟨lp, 1, none⟩ = some dv := h.blk.cell 1
  rcases h.rd.form with ⟨rfl, h0⟩ | ⟨g, cap, rfl, _, _, _, _⟩
  · rw [h0]
    clear h h0
    go_enter Try.func36, Try.ntmps36
    go_wp2
    go_ret
    exact ⟨rfl, rfl⟩
  · clear h
    go_enter Try.func36, Try.ntmps36
    go_wp2
    go_ret
    exact ⟨rfl, rfl⟩

def driveM (L : LV) (n : Int) : Int × Int × Bool := if 0 ≤ n then match L.drives[n.toNat]? with
  | some d => if d.broken then (-1, 0, false) else (d.cart, d.pos, true)
  | none => (-1, 0, false)
  else (-1, 0, false)
set_option maxHeartbeats 1000000 in
theorem lDrive (own : Nat → Nat) (w : World) (lp : Nat) (cv dv : Value) (L : LV) (n : Int) (h : LCore own w lp cv dv L) :
    Calls Try.prog 31 #[.pointer (some ⟨lp, 0, none⟩), .int .i64 n] w fun e w' => e = .returned (.tuple #[.int .i64 (driveM L n).1, .int .i64 (driveM L n).2.1, .bool (driveM L n).2.2]) ∧ Below w.heap.size w w' := by
  have c0 : w.cell? ⟨lp, 1, none⟩ = some dv := h.blk.cell 1
  have hfm := h.rd.form
  have H := Lib.hid h
  clear h
  by_cases hneg : n < 0
  · have e1 : driveM L n = (-1, 0, false) := by unfold driveM; rw [if_neg (by omega)]
    rw [e1]
    clear e1 hfm
    have d1 : decide (n < 0) = true := by simpa using hneg
    go_enter Try.func31, Try.ntmps31
    go_wp2
    go_ret3
    exact ⟨rfl, Below.refl _ _⟩
  · obtain ⟨i, rfl⟩ := Int.eq_ofNat_of_zero_le (show 0 ≤ n by omega)
    have d1 : decide ((i : Int) < 0) = false := by simp
    by_cases hi : i < L.drives.length
    · obtain ⟨D, hD⟩ : ∃ D, L.drives[i]? = some D := ⟨_, List.getElem?_eq_getElem hi⟩
      have e1 : driveM L (i : Int) = if D.broken then (-1, 0, false) else (D.cart, D.pos, true) := by unfold driveM; rw [if_pos (by omega), Int.toNat_natCast, hD]
      rw [e1]
      rcases hfm with ⟨_, h0⟩ | ⟨g, cap, rfl, _, _, _, _⟩
      · omega
      have k0 : w.cell? ⟨g, i * 4, none⟩ = some (.int .i64 D.cart) := H.out.drive_cell rfl hD (q := 0) (by decide) rfl
      have k1 : w.cell? ⟨g, i * 4 + 1, none⟩ = some (.int .i64 D.pos) := H.out.drive_cell rfl hD (q := 1) (by decide) rfl
      have k2 : w.cell? ⟨g, i * 4 + 2, none⟩ = some (.int .i64 D.last) := H.out.drive_cell rfl hD (q := 2) (by decide) rfl
      have k3 : w.cell? ⟨g, i * 4 + 3, none⟩ = some (.bool D.broken) := H.out.drive_cell rfl hD (q := 3) (by decide) rfl
      have d2 : decide (L.drives.length ≤ i) = false := by simpa using hi
      clear e1 hD
      rcases D with ⟨ca, po, la, br⟩
      simp only at k0 k1 k2 k3
      cases br
      · go_enter Try.func31, Try.ntmps31
        go_wp2
        go_quiet (fail)
        go_wp2
        go_ret3
        exact ⟨rfl, below_drewN ((Below.refl _ _).alloc (Nat.le_refl _) _) _⟩
      · go_enter Try.func31, Try.ntmps31
        go_wp2
        go_ret3
        exact ⟨rfl, (Below.refl _ _).alloc (Nat.le_refl _) _⟩
    · have e1 : driveM L (i : Int) = (-1, 0, false) := by unfold driveM; rw [if_pos (by omega), Int.toNat_natCast, List.getElem?_eq_none (by omega)]
      rw [e1]
      rcases hfm with ⟨rfl, h0⟩ | ⟨g, cap, rfl, _, _, _, _⟩
      · clear e1 h0
        go_enter Try.func31, Try.ntmps31
        go_wp2
        go_ret3
        exact ⟨rfl, Below.refl _ _⟩
      · have d2 : decide (L.drives.length ≤ i) = true := by simpa using hi
        clear e1
        go_enter Try.func31, Try.ntmps31
        go_wp2
        go_ret3
        exact ⟨rfl, Below.refl _ _⟩
end Go.Proofs.Ytiiilimmjoadeaa
