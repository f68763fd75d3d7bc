/- What shards of one copy say: keys of a map that are structs; two small functions. No condition beyond those that each theorem states. -/
import Derived.Test.YthceidacmeadkaaS3
import Derived.DeepKeys4
import Derived.ChangeKeys
namespace Go.Proofs.Ythceidacmeadkaa
open Go.RowKit Go.Maps Go.WideMaps
attribute [local go_sem] Oper.semAt_some

structure BlobV where
  key : Str
  gen : Int
  groups : Int
  size : Int
  sum : Str
deriving DecidableEq
def blobCells (b : BlobV) : Array Value := #[strV b.key, .int .i64 b.gen, .int .i64 b.groups, .int .i64 b.size, strV b.sum]
def ofR (r : RecV) : BlobV := ⟨r.key, r.gen, r.groups, r.size, r.sum⟩
def OkB (b : BlobV) : Prop := b.key.length ≤ maxLen ∧ b.sum.length ≤ maxLen ∧ (Lit.int .i64 b.gen).wf = true ∧ (Lit.int .i64 b.groups).wf = true ∧ (Lit.int .i64 b.size).wf = true
def blobLits (b : BlobV) : List Lit := [.string b.key, .int .i64 b.gen, .int .i64 b.groups, .int .i64 b.size, .string b.sum]
theorem laidOut : laidOutB Try.prog = true := by kernel_rfl
theorem rowBlob : 59 < Try.prog.types.size := of_decide_eq_true (by kernel_rfl)
theorem keyBlob : Try.prog.keyType 59 = true := by kernel_rfl
theorem cellsBlob : Try.prog.cellsOf 59 = 5 := by kernel_rfl
theorem cellsStr : Try.prog.cellsOf 9 = 1 := by kernel_rfl
theorem cellsInt : Try.prog.cellsOf 3 = 1 := by kernel_rfl
theorem typesOne : ∃ m, Try.prog.types.size = m + 1 := ⟨Try.prog.types.size - 1, by kernel_rfl⟩
theorem blob_lits (b : BlobV) (h : OkB b) : Try.prog.keyLits (Try.prog.types.size + 1) 59 (blobCells b).toList = some (blobLits b) := by
  obtain ⟨h1, h2, h3, h4, h5⟩ := h
  obtain ⟨m, hm⟩ := typesOne
  rw [hm]
  have e1 : (⟨b.key.toArray⟩ : ByteArray).size ≤ maxLen := by simpa [ByteArray.size] using h1
  have e2 : (⟨b.sum.toArray⟩ : ByteArray).size ≤ maxLen := by simpa [ByteArray.size] using h2
  simp [Program.keyLits, Try.underlying59, Try.underlying9, Try.underlying3, cellsBlob, cellsStr, cellsInt, blobCells, blobLits, e1, e2, h3, h4, h5]
theorem blob_key (b : BlobV) (h : OkB b) : keyOf Try.prog 59 (.agg (blobCells b)) = some (.string (keyBytes (blobLits b))) := by
  have h1 := blob_lits b h
  unfold keyOf
  simp only [Try.underlying59, keyBlob]
  rw [if_pos (by simp [Value.formed, Try.underlying59, cellsBlob, blobCells])]
  show ((Try.prog.keyLits (Try.prog.types.size + 1) 59 (blobCells b).toList).map fun ls => Lit.string (keyBytes ls)) = _
  rw [h1]
  rfl
theorem blob_law : KeyLaw Try.prog 59 := deep_law_laid laidOut (m := 3) (by omega) rowBlob (by kernel_rfl) (by kernel_rfl)
theorem blob_inj (a b : BlobV) (ha : OkB a) (hb : OkB b) (h : Lit.string (keyBytes (blobLits a)) = .string (keyBytes (blobLits b))) : a = b := by
  have h1 := blob_law.inj (blob_key a ha) (by rw [h]; exact blob_key b hb)
  injection h1 with h1
  obtain ⟨k, g, n, s, m⟩ := a
  obtain ⟨k', g', n', s', m'⟩ := b
  simp [blobCells] at h1
  obtain ⟨rfl, rfl, rfl, rfl, rfl⟩ := h1
  rfl
theorem sOf (r : RecV) (A : Option Addr) (c : Nat) (w : World) : Calls Try.prog 40 #[recV r A c] w fun e w' => e = .returned (.agg (blobCells (ofR r))) ∧ Below w.heap.size w w' := by
  unfold recV recCells blobCells ofR
  go_enter Try.func40, Try.ntmps40
  go_wp2_with fail
  refine bodyPost_ret (results_cell_row rfl _ _ (w.heap.size + 1) 59 _ (0, 0) _ rfl (Blk.made' _ 59 _ (by simp)) Try.underlying59 rfl (by kernel_rfl)) rfl ?_
  exact ⟨rfl, ((Below.refl _ w).alloc (Nat.le_refl _) _).alloc (by simp) _⟩
theorem sNowhere (w : World) : Calls Try.prog 42 #[] w fun e w' => e = .returned (.agg #[.int .i64 0, .int .i64 1024]) ∧ Below w.heap.size w w' := by
  go_enter Try.func42, Try.ntmps42
  go_wp2_with fail
  refine bodyPost_ret (results_cell_row rfl _ _ w.heap.size 34 _ (0, 0) _ rfl (Blk.made _ 34 _) Try.underlying34 rfl (by kernel_rfl)) rfl ?_
  exact ⟨rfl, (Below.refl _ w).alloc (Nat.le_refl _) _⟩
end Go.Proofs.Ythceidacmeadkaa
