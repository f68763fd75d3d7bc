/- A catalog made by notes. No condition beyond those that each theorem states. -/
import Derived.Test.YtmkccblcmiflfaaKC11
import Derived.Test.YtmkccblcmiflfaaKP1
namespace Go.Proofs.Ytmkccblcmiflfaa
open Go.RowKit Go.Maps Go.WideMaps

/-- A note that comes in. -/
structure NoteA where
  v : NoteV
  D : Option Addr
  dn : Nat
  dc : Nat
  Q : Option Addr
  qn : Nat
  qc : Nat
def NoteA.cells (r : NoteA) : List Value := [.int .i64 r.v.kind, encStr r.v.key, .int .i64 r.v.gen, .int .i64 r.v.cart, .slice r.D r.dn r.dc, encStr r.v.sum, .int .i64 r.v.size, .slice r.Q r.qn r.qc]
structure NoteOk (w : World) (r : NoteA) : Prop where
  is : NoteIn w r.v r.D r.dn r.dc r.Q r.qn r.qc
  old : 0 < r.qn → ∀ b off, r.Q = some ⟨b, off, none⟩ → b < w.heap.size
theorem NoteOk.below {w w' : World} {r : NoteA} (h : NoteOk w r) (hb : Below w.heap.size w w') : NoteOk w' r := ⟨h.is.below hb, fun h0 b off e => Nat.lt_of_lt_of_le (h.old h0 b off e) hb.size⟩
def NotesIn (w : World) (A : Option Addr) (n : Nat) (f : Nat → NoteA) : Prop :=
  n = 0 ∨ ∃ b off, A = some ⟨b, off, none⟩ ∧ b < w.heap.size ∧ ∀ i, i < n → NoteOk w (f i) ∧ ∀ t u, (f i).cells[t]? = some u → w.cell? ⟨b, off + i * 8 + t, none⟩ = some u
theorem NotesIn.below {w w' : World} {A : Option Addr} {n : Nat} {f : Nat → NoteA} (h : NotesIn w A n f) (hb : Below w.heap.size w w') : NotesIn w' A n f :=
  h.imp id fun ⟨b, off, h1, h2, h3⟩ => ⟨b, off, h1, Nat.lt_of_lt_of_le h2 hb.size, fun i hi => ⟨(h3 i hi).1.below hb, fun t u hu => (hb.cell (p := ⟨b, off + i * 8 + t, none⟩) h2).trans ((h3 i hi).2 t u hu)⟩⟩
/-- A catalog by the first notes. -/
def runC (f : Nat → NoteV) : Nat → CV
  | 0 => newC
  | k + 1 => (applyC (runC f k) (f k)).2
section
set_option maxHeartbeats 4000000
set_option maxRecDepth 8000
theorem cMade (A : Option Addr) (n c : Nat) (f : Nat → NoteA) (m : Nat) (w : World) (h : NotesIn w A n f) (hc : n ≤ maxLen) (hm : m ≤ 1000) :
    Calls Try.prog 6 #[.slice A n c, .int .i64 m] w fun e w' => ∃ p F, e = .returned (.pointer (some ⟨p, 0, none⟩)) ∧ (∀ k, F k → w.heap.size ≤ k ∧ k < w'.heap.size) ∧ CatAt F w' p m (runC (fun i => (f i).v) (min n m)) ∧ Below w.heap.size w w' := by
  have H := Lib.hid h
  have h63 : n ≤ 9223372036854775807 := by simpa [maxLen] using hc
  clear h hc
  go_enter Try.func6, Try.ntmps6
  go_wp2_with (go_at_call 13; refine (cNew _).mono ?_; rintro e w1 ⟨p, rfl, hp, hca, hb1⟩; have C1 := Lib.hid hca; have B1 := Lib.hid hb1; clear hca hb1)
  go_loopw [6] (fun i wx => ∃ (j : Nat) (F : Nat → Prop), i = .int .i64 j ∧ j ≤ min n m ∧ CatAt F wx p j (runC (fun i => (f i).v) j) ∧ (∀ k, F k → w.heap.size ≤ k ∧ k < wx.heap.size) ∧ Below w.heap.size w wx) (fun i _ => n - (intOf i).toNat)
  case atStart => exact ⟨0, fun k => w.heap.size ≤ k ∧ k < w1.heap.size, rfl, Nat.zero_le _, (CatAt.owning ..).mono _ _ _ C1.out (fun k h1 h2 => ⟨h2, h1⟩), fun k h => h, B1.out⟩
  case round =>
    obtain ⟨j, F, rfl, hj, hca, hF, hbl⟩ := hrel
    have hz := hbl.size
    have CA := Lib.hid hca
    have HF := Lib.hid hF
    have BL := Lib.hid hbl
    clear hca hF
    by_cases hlt : j < n
    · have d1 : decide (j < n) = true := by simpa using hlt
      by_cases hlm : j < m
      · have d2 : decide (j < m) = true := by simpa using hlm
        have d3 : decide ((j : Int) < (m : Int)) = true := by simpa using hlm
        obtain ⟨b, off, rfl, hlb, hall⟩ : ∃ b off, A = some ⟨b, off, none⟩ ∧ b < w.heap.size ∧ ∀ i, i < n → NoteOk w (f i) ∧ ∀ t u, (f i).cells[t]? = some u → w.cell? ⟨b, off + i * 8 + t, none⟩ = some u := by
          rcases H.out with h0 | h0
          · omega
          · exact h0
        obtain ⟨hok, hce⟩ := hall j hlt
        have HR := Lib.hid (show runC (fun i => (f i).v) (j + 1) = (applyC (runC (fun i => (f i).v) j) (f j).v).2 from rfl)
        generalize f j = r at *
        have x0 : wr.cell? ⟨b, off + j * 8, none⟩ = some (.int .i64 r.v.kind) := (hbl.cell (p := ⟨b, off + j * 8, none⟩) hlb).trans (hce 0 _ rfl)
        have x1 : wr.cell? ⟨b, off + j * 8 + 1, none⟩ = some (encStr r.v.key) := (hbl.cell (p := ⟨b, off + j * 8 + 1, none⟩) hlb).trans (hce 1 _ rfl)
        have x2 : wr.cell? ⟨b, off + j * 8 + 2, none⟩ = some (.int .i64 r.v.gen) := (hbl.cell (p := ⟨b, off + j * 8 + 2, none⟩) hlb).trans (hce 2 _ rfl)
        have x3 : wr.cell? ⟨b, off + j * 8 + 3, none⟩ = some (.int .i64 r.v.cart) := (hbl.cell (p := ⟨b, off + j * 8 + 3, none⟩) hlb).trans (hce 3 _ rfl)
        have x4 : wr.cell? ⟨b, off + j * 8 + 4, none⟩ = some (.slice r.D r.dn r.dc) := (hbl.cell (p := ⟨b, off + j * 8 + 4, none⟩) hlb).trans (hce 4 _ rfl)
        have x5 : wr.cell? ⟨b, off + j * 8 + 5, none⟩ = some (encStr r.v.sum) := (hbl.cell (p := ⟨b, off + j * 8 + 5, none⟩) hlb).trans (hce 5 _ rfl)
        have x6 : wr.cell? ⟨b, off + j * 8 + 6, none⟩ = some (.int .i64 r.v.size) := (hbl.cell (p := ⟨b, off + j * 8 + 6, none⟩) hlb).trans (hce 6 _ rfl)
        have x7 : wr.cell? ⟨b, off + j * 8 + 7, none⟩ = some (.slice r.Q r.qn r.qc) := (hbl.cell (p := ⟨b, off + j * 8 + 7, none⟩) hlb).trans (hce 7 _ rfl)
        have HOK := Lib.hid (hok.below hbl)
        have HAP := Lib.hid (show 0 < r.qn → ∀ b off, r.Q = some ⟨b, off, none⟩ → ¬ F b from fun h0 b' off' e hF => by have := hok.old h0 b' off' e; have := (HF.out b' hF).1; omega)
        clear hok hce hall hbl
        go_wp2_with (go_at_call 9; refine (cApply F p j _ r.v r.D r.dn r.dc r.Q r.qn r.qc _ CA.out (by omega) HOK.out.is HAP.out).mono ?_; rintro e w3 ⟨rfl, F', hca', htk⟩; have CA3 := Lib.hid hca'; have TK := Lib.hid htk; clear hca' htk)
        go_roundw
        case rel => exact ⟨j + 1, F', by go_num, by omega, by rw [HR.out]; exact CA3.out, fun k hk => ⟨by rcases (TK.out.2 k hk).2 with h | h; exact (HF.out k h).1; omega, (TK.out.2 k hk).1⟩, BL.out.trans (TK.out.1.below hz (fun i hi => (HF.out i hi).1))⟩
        case measure => simp [intOf]; omega
      · have d2 : decide (j < m) = false := by simpa using hlm
        have d3 : decide ((j : Int) < (m : Int)) = false := by simpa using hlm
        obtain rfl : j = m := by omega
        have hmin : min n j = j := by omega
        go_wp2_with fail
        go_ret
        refine ⟨p, F, rfl, HF.out, ?_, BL.out⟩
        rw [hmin]
        exact CA.out
    · have d1 : decide (j < n) = false := by simpa using hlt
      obtain rfl : j = n := by omega
      have hmin : min j m = j := by omega
      go_wp2_with fail
      go_ret
      refine ⟨p, F, rfl, HF.out, ?_, BL.out⟩
      rw [hmin]
      exact CA.out.up (by omega)
end
end Go.Proofs.Ytmkccblcmiflfaa
