/- The document's library, as it lies in memory; its methods that only look. No condition beyond those that each theorem states. -/
import Derived.Test.YtiiilimmjoadeaaL14
import Derived.Test.YtiiilimmjoadeaaR3
namespace Go.Proofs.Ytiiilimmjoadeaa
open Go.RowKit

structure RD where
  cart : Int
  pos : Int
  works : Bool
structure RLV where
  carts : List CV
  drives : List RD
  asked : List Nat
def rdVals (d : RD) : List Value := [.int .i64 d.cart, .int .i64 d.pos, .bool d.works]
theorem rdVals_length (d : RD) : (rdVals d).length = 3 := rfl
def rdvs (ds : List RD) : List Value := ds.flatMap rdVals
def askV (zs : List Nat) : List Value := zs.map fun (a : Nat) => Value.int .i64 (a : Int)
theorem askV_get {zs : List Nat} {i a : Nat} (h : zs[i]? = some a) : (askV zs)[i]? = some (.int .i64 (a : Int)) := by simp [askV, h]
theorem rdvs_snoc (ds : List RD) (d : RD) : rdvs (ds ++ [d]) = rdvs ds ++ rdVals d := by simp [rdvs]

/-- The library's own blocks are 1's, cartridge i's are (i + 10)'s. -/
structure RCore (own : Nat → Nat) (w : World) (rp : Nat) (cv dv av : Value) (R : RLV) : Prop where
  blk : Blk w rp 102 #[cv, dv, av]
  lab : own rp = 1
  rc : OwnRow (fun k => own k = 1) w 40 1 cv R.carts.length (ptrs R.carts)
  rd : OwnRow (fun k => own k = 1) w 105 3 dv R.drives.length (rdvs R.drives)
  ra : OwnRow (fun k => own k = 1) w 3 1 av R.asked.length (askV R.asked)
  cs : ∀ i C, R.carts[i]? = some C → ROwn (fun k => own k = i + 10) w C.p C.M C.most C.lost
  few : R.carts.length ≤ 32
  four : R.drives.length ≤ 4
  ask : ∀ a ∈ R.asked, a < R.drives.length

theorem OwnRow.off {F S : Nat → Prop} {w w' : World} {t t' : TypeId} {size n : Nat} {v : Value} {xs : List Value} (h : OwnRow F w t size v n xs) (hc : Chg S w w') (hS : ∀ k, S k → ∃ cs, Blk w k t' cs) (hne : t ≠ t') : OwnRow F w' t size v n xs :=
  ⟨own_of_eq h.1 (fun g hg => hc.block g (h.1.lt g hg).2 (fun hs => by
    obtain ⟨cs, hcs⟩ := own_blk h.1 hg
    obtain ⟨cs', hcs'⟩ := hS g hs
    exact blk_ne hcs hcs' hne rfl)), h.2⟩

section
variable {own own' : Nat → Nat} {w w' : World} {rp : Nat} {cv dv av : Value} {R : RLV}
theorem RCore.keep (h : RCore own w rp cv dv av R) (hz : w.heap.size ≤ w'.heap.size) (hk : ∀ k, k < w.heap.size → own k ≠ 0 → w'.heap[k]? = w.heap[k]?) : RCore own w' rp cv dv av R :=
  have f1 : ∀ k, k < w.heap.size → own k = 1 → w'.heap[k]? = w.heap[k]? := fun k hk1 hf => hk k hk1 (by rw [hf]; decide)
  ⟨h.blk.of_eq (hk rp h.blk.size (by rw [h.lab]; decide)), h.lab, (OwnRow.owning _ _ _ _ _).keep _ _ _ h.rc hz f1, (OwnRow.owning _ _ _ _ _).keep _ _ _ h.rd hz f1, (OwnRow.owning _ _ _ _ _).keep _ _ _ h.ra hz f1,
    fun i C hC => (ROwn.owning _ _ _ _).keep _ _ _ (h.cs i C hC) hz (fun k hk1 hf => hk k hk1 (by rw [hf]; omega)), h.few, h.four, h.ask⟩
theorem RCore.below (h : RCore own w rp cv dv av R) (hb : Below w.heap.size w w') : RCore own w' rp cv dv av R := h.keep hb.size (fun k hk _ => hb.block k hk)
theorem RCore.relab (h : RCore own w rp cv dv av R) (he : ∀ k, k < w.heap.size → own' k = own k) : RCore own' w rp cv dv av R :=
  ⟨h.blk, (he rp h.blk.size).trans h.lab, (OwnRow.owning _ _ _ _ _).mono _ _ _ h.rc (fun k hk hf => (he k hk).trans hf), (OwnRow.owning _ _ _ _ _).mono _ _ _ h.rd (fun k hk hf => (he k hk).trans hf), (OwnRow.owning _ _ _ _ _).mono _ _ _ h.ra (fun k hk hf => (he k hk).trans hf), fun i C hC => (ROwn.owning _ _ _ _).mono _ _ _ (h.cs i C hC) (fun k hk hf => (he k hk).trans hf), h.few, h.four, h.ask⟩
/-- The cartridges, where only blocks that are 1's have turned. -/
theorem RCore.cs_keep {S : Nat → Prop} (h : RCore own w rp cv dv av R) (hc : Chg S w w') (hS : ∀ k, S k → own k = 1) : ∀ i C, R.carts[i]? = some C → ROwn (fun k => own k = i + 10) w' C.p C.M C.most C.lost :=
  fun i C hC => (ROwn.owning _ _ _ _).keep _ _ _ (h.cs i C hC) hc.size (fun k hk hf => hc.block k hk (fun hs => by have := hS k hs; omega))
theorem RCore.drive_cell (h : RCore own w rp cv dv av R) {g cap : Nat} (hv : dv = .slice (some ⟨g, 0, none⟩) R.drives.length cap) {i q : Nat} {d : RD} {u : Value} (hd : R.drives[i]? = some d) (hq : q < 3) (hu : (rdVals d)[q]? = some u) : w.cell? ⟨g, i * 3 + q, none⟩ = some u := by
  subst hv
  exact own_cell h.rd.1 (by rw [rdvs, flat_get rdVals_length hd hq]; exact hu)
theorem RCore.cart_cell (h : RCore own w rp cv dv av R) {g cap : Nat} (hv : cv = .slice (some ⟨g, 0, none⟩) R.carts.length cap) {i : Nat} {c : CV} (hc : R.carts[i]? = some c) : w.cell? ⟨g, i, none⟩ = some (.pointer (some ⟨c.p, 0, none⟩)) := by
  subst hv
  exact own_cell h.rc.1 (ptrs_get hc)
theorem RCore.ask_cell (h : RCore own w rp cv dv av R) {g cap : Nat} (hv : av = .slice (some ⟨g, 0, none⟩) R.asked.length cap) {i a : Nat} (hc : R.asked[i]? = some a) : w.cell? ⟨g, i, none⟩ = some (.int .i64 (a : Int)) := by
  subst hv
  exact own_cell h.ra.1 (askV_get hc)
end

def isR (R : RLV) (n : Int) : Bool := decide (0 ≤ n) && decide (n < R.carts.length)
set_option maxHeartbeats 1000000 in
theorem rIs (own : Nat → Nat) (w : World) (rp : Nat) (cv dv av : Value) (R : RLV) (n : Int) (h : RCore own w rp cv dv av R) :
    Calls Try.prog 59 #[.pointer (some ⟨rp, 0, none⟩), .int .i64 n] w fun e w' => e = .returned (.bool (isR R n)) ∧ w = w' := by
  have c0 : w.cell? ⟨rp, 0, none⟩ = some cv := h.blk.cell 0
  have hfm := h.rc.form
  clear h
  unfold isR
  by_cases hn : 0 ≤ n
  · have d1 : decide (0 ≤ n) = true := by simpa using hn
    rcases hfm with ⟨rfl, h0⟩ | ⟨g, cap, rfl, _, _, _, _⟩
    · have e0 : decide (n < (R.carts.length : Int)) = false := by rw [h0]; simp; omega
      have d2 : decide (n < 0) = false := by simp; omega
      rw [e0]
      clear e0 h0
      go_enter Try.func59, Try.ntmps59
      go_wp2
      go_ret
      exact ⟨bool_ret (by simp), rfl⟩
    · by_cases hl : n < R.carts.length
      · have d2 : decide (n < (R.carts.length : Int)) = true := by simpa using hl
        go_enter Try.func59, Try.ntmps59
        go_wp2
        go_ret
        exact ⟨bool_ret (by simp_all), rfl⟩
      · have d2 : decide (n < (R.carts.length : Int)) = false := by simpa using hl
        go_enter Try.func59, Try.ntmps59
        go_wp2
        go_ret
        exact ⟨bool_ret (by simp_all), rfl⟩
  · have d1 : decide (0 ≤ n) = false := by simpa using hn
    rw [d1]
    go_enter Try.func59, Try.ntmps59
    go_wp2
    go_ret
    exact ⟨rfl, rfl⟩

/-- One of the drives, or none. -/
def Which (R : RLV) (j : Int) : Prop := j = -1 ∨ ∃ k : Nat, j = k ∧ k < R.drives.length
set_option maxHeartbeats 1000000 in
theorem rWith (own : Nat → Nat) (w : World) (rp : Nat) (cv dv av : Value) (R : RLV) (n : Int) (h : RCore own w rp cv dv av R) :
    Calls Try.prog 64 #[.pointer (some ⟨rp, 0, none⟩), .int .i64 n] w fun e w' => (∃ j, e = .returned (.int .i64 j) ∧ Which R j) ∧ w = w' := by
  have c0 : w.cell? ⟨rp, 1, none⟩ = some dv := h.blk.cell 1
  have hfm := h.rd.form
  have hfour := h.four
  have H := Lib.hid h
  clear h
  go_enter Try.func64, Try.ntmps64
  go_wp2_with fail
  go_loop [5] (fun i => ∃ k : Nat, k ≤ R.drives.length ∧ i = .int .i64 k) (fun i => R.drives.length - (intOf i).toNat)
  case atStart => exact ⟨0, by omega, rfl⟩
  case round =>
    obtain ⟨k, hk, rfl⟩ := hrel
    rcases hfm with ⟨rfl, h0⟩ | ⟨g, cap, rfl, _, _, _, _⟩
    · have hk0 : k = 0 := by omega
      subst hk0
      clear h0
      go_wp2_with fail
      go_ret
      exact ⟨⟨_, rfl, .inl rfl⟩, rfl⟩
    · by_cases hlt : k < R.drives.length
      · obtain ⟨D, hD⟩ : ∃ D, R.drives[k]? = some D := ⟨_, List.getElem?_eq_getElem hlt⟩
        have k0 : w.cell? ⟨g, k * 3, none⟩ = some (.int .i64 D.cart) := H.out.drive_cell rfl hD (q := 0) (by decide) rfl
        have k2 : w.cell? ⟨g, k * 3 + 2, none⟩ = some (.bool D.works) := H.out.drive_cell rfl hD (q := 2) (by decide) rfl
        have d1 : decide (k < R.drives.length) = true := by simpa using hlt
        clear hD
        rcases D with ⟨ca, po, wk⟩
        simp only at k0 k2
        cases wk with
        | false =>
          go_wp2_with fail
          go_round
          case rel => exact ⟨k + 1, hlt, by go_num⟩
          case measure => simp [intOf]; omega
        | true =>
          by_cases hca : ca = n
          · subst hca
            go_wp2_with fail
            go_ret
            exact ⟨⟨_, rfl, .inr ⟨k, rfl, hlt⟩⟩, rfl⟩
          · have hcn : (ca == n) = false := by simpa using hca
            go_wp2_with fail
            go_round
            case rel => exact ⟨k + 1, hlt, by go_num⟩
            case measure => simp [intOf]; omega
      · have d1 : decide (k < R.drives.length) = false := by simpa using hlt
        go_wp2_with fail
        go_ret
        exact ⟨⟨_, rfl, .inl rfl⟩, rfl⟩
set_option maxHeartbeats 1000000 in
theorem rTakes (own : Nat → Nat) (w : World) (rp : Nat) (cv dv av : Value) (R : RLV) (h : RCore own w rp cv dv av R) (hask : R.asked.length ≤ 100000) :
    Calls Try.prog 65 #[.pointer (some ⟨rp, 0, none⟩)] w fun e w' => (∃ j, e = .returned (.int .i64 j) ∧ Which R j) ∧ Below w.heap.size w w' := by
  have c0 : ∀ N, (w.drewN N).cell? ⟨rp, 1, none⟩ = some dv := fun N => h.blk.cell 1
  have c2 : ∀ N, (w.drewN N).cell? ⟨rp, 2, none⟩ = some av := fun N => h.blk.cell 2
  have c0' : w.cell? ⟨rp, 1, none⟩ = some dv := h.blk.cell 1
  have c2' : w.cell? ⟨rp, 2, none⟩ = some av := h.blk.cell 2
  have hfa := h.ra.form
  have hfour := h.four
  have H := Lib.hid h
  rcases h.rd.form with ⟨rfl, h0⟩ | ⟨g, cap, rfl, _, _, _, _⟩
  · have ha0 : R.asked.length = 0 := by
      rcases hq : R.asked with _ | ⟨a, zs⟩
      · rfl
      · have := h.ask a (by simp [hq])
        omega
    clear h h0
    go_enter Try.func65, Try.ntmps65
    go_wp2_with fail
    go_loop [3] (fun i => i = .int .i64 0) (fun _ => 0)
    case atStart => rfl
    case round =>
      subst hrel
      go_wp2_with fail
      go_loop [4] (fun i => i = .int .i64 0) (fun _ => 0)
      case atStart => rfl
      case round =>
        subst hrel
        rcases hfa with ⟨rfl, _⟩ | ⟨ga, capa, rfl, _, _, _, _⟩
        · go_wp2_with fail
          go_ret
          exact ⟨⟨_, rfl, .inl rfl⟩, Below.refl _ _⟩
        · have d1 : decide (0 < R.asked.length) = false := by simpa using ha0
          clear ha0
          go_wp2_with fail
          go_ret
          exact ⟨⟨_, rfl, .inl rfl⟩, Below.refl _ _⟩
  · have hk := h.ask
    have HK := Lib.hid hk
    clear h hk
    go_enter Try.func65, Try.ntmps65
    go_wp2_with fail
    go_loop [3] (fun i => ∃ k : Nat, k ≤ R.drives.length ∧ i = .int .i64 k) (fun i => R.drives.length - (intOf i).toNat)
    case atStart => exact ⟨0, by omega, rfl⟩
    case round =>
      obtain ⟨k, hk, rfl⟩ := hrel
      by_cases hlt : k < R.drives.length
      · obtain ⟨D, hD⟩ : ∃ D, R.drives[k]? = some D := ⟨_, List.getElem?_eq_getElem hlt⟩
        have k0 : w.cell? ⟨g, k * 3, none⟩ = some (.int .i64 D.cart) := H.out.drive_cell rfl hD (q := 0) (by decide) rfl
        have k2 : w.cell? ⟨g, k * 3 + 2, none⟩ = some (.bool D.works) := H.out.drive_cell rfl hD (q := 2) (by decide) rfl
        have d1 : decide (k < R.drives.length) = true := by simpa using hlt
        clear hD
        rcases D with ⟨ca, po, wk⟩
        simp only at k0 k2
        cases wk with
        | false =>
          go_wp2_with fail
          go_round
          case rel => exact ⟨k + 1, hlt, by go_num⟩
          case measure => simp [intOf]; omega
        | true =>
          by_cases hca : ca < 0
          · have hcn : decide (ca < 0) = true := by simpa using hca
            go_wp2_with fail
            go_ret
            exact ⟨⟨_, rfl, .inr ⟨k, rfl, hlt⟩⟩, Below.refl _ _⟩
          · have hcn : decide (ca < 0) = false := by simpa using hca
            go_wp2_with fail
            go_round
            case rel => exact ⟨k + 1, hlt, by go_num⟩
            case measure => simp [intOf]; omega
      · have d1 : decide (k < R.drives.length) = false := by simpa using hlt
        go_wp2_with fail
        go_loopw [4] (fun i wx => ∃ j N : Nat, j ≤ R.asked.length ∧ i = .int .i64 j ∧ wx = w.drewN N) (fun i _ => R.asked.length - (intOf i).toNat)
        case atStart => exact ⟨0, 0, by omega, rfl, rfl⟩
        case round =>
          obtain ⟨j, N, hj, rfl, rfl⟩ := hrel
          rcases hfa with ⟨rfl, ha0⟩ | ⟨ga, capa, rfl, _, _, _, _⟩
          · have hj0 : j = 0 := by omega
            subst hj0
            clear ha0
            go_wp2_with fail
            go_ret
            exact ⟨⟨_, rfl, .inl rfl⟩, below_drewN (Below.refl _ _) _⟩
          · by_cases hjl : j < R.asked.length
            · obtain ⟨a, ha⟩ : ∃ a, R.asked[j]? = some a := ⟨_, List.getElem?_eq_getElem hjl⟩
              have had : a < R.drives.length := HK.out a (List.mem_of_getElem? ha)
              obtain ⟨D, hD⟩ : ∃ D, R.drives[a]? = some D := ⟨_, List.getElem?_eq_getElem had⟩
              have k2 : ∀ N, (w.drewN N).cell? ⟨g, a * 3 + 2, none⟩ = some (.bool D.works) := fun N => H.out.drive_cell rfl hD (q := 2) (by decide) rfl
              have k1 : ∀ N, (w.drewN N).cell? ⟨ga, j, none⟩ = some (.int .i64 (a : Int)) := fun N => H.out.ask_cell rfl ha
              have d2 : decide (j < R.asked.length) = true := by simpa using hjl
              clear ha hD
              rcases D with ⟨ca, po, wk⟩
              simp only at k2
              cases wk with
              | false =>
                go_wp2_with fail
                go_quiet (fail)
                go_wp2_with fail
                go_roundw
                case rel => exact ⟨j + 1, _, hjl, by go_num, rfl⟩
                case measure => simp [intOf]; omega
              | true =>
                go_wp2_with fail
                go_quiet (fail)
                go_wp2_with fail
                go_ret
                exact ⟨⟨_, rfl, .inr ⟨a, rfl, had⟩⟩, below_drewN (Below.refl _ _) _⟩
            · have d2 : decide (j < R.asked.length) = false := by simpa using hjl
              go_wp2_with fail
              go_ret
              exact ⟨⟨_, rfl, .inl rfl⟩, below_drewN (Below.refl _ _) _⟩
end Go.Proofs.Ytiiilimmjoadeaa
