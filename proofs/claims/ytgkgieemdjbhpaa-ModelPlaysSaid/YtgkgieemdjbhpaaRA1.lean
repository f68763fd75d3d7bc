/- The document's model in memory: a row of blobs, rising by their keys. No condition beyond those that each theorem states. -/
import Derived.Test.YtgkgieemdjbhpaaMC1
import Derived.Deep.QuietTactic
namespace Go.Proofs.Ytgkgieemdjbhpaa
open Go.RowKit Go.Maps

def blobV (q : List UInt8 × List UInt8) : List Value := [encStr q.1, encStr q.2]
theorem blobV_len (q : List UInt8 × List UInt8) : (blobV q).length = 2 := rfl
def blobVs (R : MV) : List Value := R.flatMap blobV
theorem blobVs_len (R : MV) : (blobVs R).length = R.length * 2 := flat_length blobV_len R
theorem blobVs_append (R T : MV) : blobVs (R ++ T) = blobVs R ++ blobVs T := by simp [blobVs]
theorem blobVs_one (R : MV) : ∀ u ∈ blobVs R, u.oneCell' = true := by
  intro u hu
  obtain ⟨q, _, hq⟩ := List.mem_flatMap.1 hu
  simp only [blobV, List.mem_cons, List.not_mem_nil, or_false] at hq
  rcases hq with rfl | rfl <;> rfl
theorem blob_info : (Try.prog.info? 62).map (fun i => (i.zero, i.size, i.bytes)) = some (some (.agg #[.string ⟨#[]⟩, .string ⟨#[]⟩]), 2, 32) := by kernel_rfl
/-- A document's model in memory, in blocks from lo on. -/
structure RAt (lo : Nat) (w : World) (r : Nat) (R : MV) : Prop where
  ge : lo ≤ r
  ex : ∃ B c, Blk w r 28 #[.slice B R.length c] ∧ w.ownsRow lo 62 2 (.slice B R.length c) R.length (blobVs R)
section
variable {lo r : Nat} {w w' : World} {R : MV}
theorem RAt.keep (h : RAt lo w r R) (hk : ∀ k, lo ≤ k → k < w.heap.size → w'.heap[k]? = w.heap[k]?) : RAt lo w' r R := by
  obtain ⟨h1, B, c, h2, h3⟩ := h
  exact ⟨h1, B, c, h2.of_eq (hk r h1 h2.size), own_of_eq h3 (fun q hq => hk q (h3.lt q hq).1 (h3.lt q hq).2)⟩
theorem RAt.below (h : RAt lo w r R) (hb : Below w.heap.size w w') : RAt lo w' r R := h.keep fun k _ hk => hb.block k hk
theorem RAt.lt (h : RAt lo w r R) : r < w.heap.size := by
  obtain ⟨h1, B, c, h2, h3⟩ := h
  exact h2.size
end
theorem row_key {w : World} {base g n cap : Nat} {R : MV} (h : w.ownsRow base 62 2 (.slice (some ⟨g, 0, none⟩) n cap) n (blobVs R)) {i : Nat} {q : List UInt8 × List UInt8} (hq : R[i]? = some q) : w.cell? ⟨g, i * 2, none⟩ = some (encStr q.1) := by
  have := own_cell h (j := i * 2 + 0) (by rw [blobVs, flat_get blobV_len hq (by decide)]; rfl)
  simpa using this
theorem row_data {w : World} {base g n cap : Nat} {R : MV} (h : w.ownsRow base 62 2 (.slice (some ⟨g, 0, none⟩) n cap) n (blobVs R)) {i : Nat} {q : List UInt8 × List UInt8} (hq : R[i]? = some q) : w.cell? ⟨g, i * 2 + 1, none⟩ = some (encStr q.2) :=
  own_cell h (j := i * 2 + 1) (by rw [blobVs, flat_get blobV_len hq (by decide)]; rfl)
/-- Where a key is, or would be. -/
structure IsAt (R : MV) (key : List UInt8) (k : Nat) (has : Bool) : Prop where
  le : k ≤ R.length
  lo : ∀ (j : Nat) (q : List UInt8 × List UInt8), j < k → R[j]? = some q → q.1 < key
  hi : ∀ q, R[k]? = some q → ¬ q.1 < key
  has : has = ((R[k]?).map fun q => q.1 == key).getD false
theorem tup2 {k : Nat} {a b : Bool} (h : a = b) : Ending.returned (.tuple #[.int .i64 (k : Int), .bool a]) = .returned (.tuple #[.int .i64 (k : Int), .bool b]) := by rw [h]
set_option maxHeartbeats 4000000 in
theorem rIs (lo r : Nat) (R : MV) (key : List UInt8) (w : World) (h : RAt lo w r R) (hR : R.length ≤ 1000000) :
    Calls Try.prog 25 #[.pointer (some ⟨r, 0, none⟩), encStr key] w fun e w' => (∃ k has, e = .returned (.tuple #[.int .i64 (k : Nat), .bool has]) ∧ IsAt R key k has) ∧ ∃ N, w' = w.drewN N := by
  obtain ⟨_, B, c, hblk, hrow⟩ := h
  have c0 : ∀ N, (w.drewN N).cell? ⟨r, 0, none⟩ = some (.slice B R.length c) := fun N => hblk.cell 0
  have c00 : w.cell? ⟨r, 0, none⟩ = some (.slice B R.length c) := hblk.cell 0
  have RW := Lib.hid hrow
  generalize hn : R.length = n at *
  have HN := Lib.hid hn
  clear hblk hrow hn
  go_enter Try.func25, Try.ntmps25
  go_wp2_with fail
  go_loop [6] (fun i => ∃ k : Nat, k ≤ n ∧ i = .int .i64 k ∧ ∀ (j : Nat) (q : List UInt8 × List UInt8), j < k → R[j]? = some q → q.1 < key) (fun i => n - (intOf i).toNat)
  case atStart => exact ⟨0, Nat.zero_le _, rfl, fun j q hj => by omega⟩
  case round =>
    obtain ⟨k, hk, rfl, hlo⟩ := hrel
    have LO := Lib.hid hlo
    clear hlo
    by_cases hlt : k < n
    · have d1 : decide (k < n) = true := by simpa using hlt
      obtain ⟨⟨pk, pd⟩, hp⟩ : ∃ q, R[k]? = some q := ⟨_, List.getElem?_eq_getElem (by rw [HN.out]; exact hlt)⟩
      obtain ⟨g, hg⟩ : ∃ g, B = some ⟨g, 0, none⟩ := by
        rcases RW.out.2 with ⟨e, h0⟩ | ⟨g, cap, cur, e, _⟩
        · omega
        · cases e; exact ⟨g, rfl⟩
      subst hg
      have k0 : ∀ N, (w.drewN N).cell? ⟨g, k * 2, none⟩ = some (encStr pk) := fun N => row_key RW.out hp
      have k00 : w.cell? ⟨g, k * 2, none⟩ = some (encStr pk) := row_key RW.out hp
      have HP := Lib.hid hp
      clear hp
      by_cases hless : pk < key
      · have hb : Op.bytesLess pk key = true := by rw [bytesLess_eq]; simpa using hless
        have hb2 : Op.bytesLess (ByteArray.mk pk.toArray).toList (ByteArray.mk key.toArray).toList = true := by rw [ByteArray.toList_mk, ByteArray.toList_mk]; exact hb
        have HL := Lib.hid hless
        clear hless
        go_wp2_with fail
        go_round
        case rel => exact ⟨k + 1, hlt, by go_num, fun j q hj hq => by
          by_cases hjk : j = k
          · subst hjk
            rw [HP.out] at hq
            cases hq
            exact HL.out
          · exact LO.out j q (by omega) hq⟩
        case measure => simp [intOf]; omega
      · have hb : Op.bytesLess pk key = false := by rw [bytesLess_eq]; simpa using hless
        have hb2 : Op.bytesLess (ByteArray.mk pk.toArray).toList (ByteArray.mk key.toArray).toList = false := by rw [ByteArray.toList_mk, ByteArray.toList_mk]; exact hb
        have HL := Lib.hid hless
        clear hless
        by_cases hpk : pk = key
        · subst hpk
          go_wp2_with fail
          go_quiet (fail)
          go_wp2_with fail
          go_ret2
          exact ⟨⟨k, true, rfl, by rw [HN.out]; exact hk, LO.out, fun q hq => by rw [HP.out] at hq; cases hq; exact HL.out, by rw [HP.out]; simp⟩, _, rfl⟩
        · have hq0 : (pk == key) = false := by simpa using hpk
          go_wp2_with fail
          go_quiet (fail)
          go_wp2_with fail
          go_ret2
          exact ⟨⟨k, false, rfl, by rw [HN.out]; exact hk, LO.out, fun q hq => by rw [HP.out] at hq; cases hq; exact HL.out, by rw [HP.out]; simp [hpk]⟩, _, rfl⟩
    · have d1 : decide (k < n) = false := by simpa using hlt
      go_wp2_with fail
      go_quiet (fail)
      go_wp2_with fail
      go_ret2
      have hnone : R[k]? = none := List.getElem?_eq_none (by rw [HN.out]; omega)
      exact ⟨⟨k, false, rfl, by rw [HN.out]; exact hk, LO.out, fun q hq => (by rw [hnone] at hq; cases hq), by rw [hnone]; rfl⟩, _, rfl⟩
end Go.Proofs.Ytgkgieemdjbhpaa
