/- What a catalog tells of one: a blob's bytes, an entry, a cartridge. No condition beyond those that each theorem states. -/
import Derived.Test.YtmkccblcmiflfaaKC15
namespace Go.Proofs.Ytmkccblcmiflfaa
open Go.RowKit Go.Maps Go.WideMaps

theorem idxP_get {α : Type} {p : α → Bool} : ∀ {l : List α} {i : Nat}, idxP p l = (i : Int) → ∃ x, l[i]? = some x ∧ p x = true
  | [], i, h => by simp [idxP] at h
  | y :: l, i, h => by
    by_cases hy : p y = true
    · simp only [idxP, hy, if_true] at h
      obtain rfl : i = 0 := by omega
      exact ⟨y, rfl, hy⟩
    · by_cases hn : idxP p l < 0
      · simp only [idxP, hy, hn, if_true, Bool.false_eq_true, if_false] at h; omega
      · simp only [idxP, hy, hn, Bool.false_eq_true, if_false] at h
        obtain ⟨j, hj⟩ := Int.eq_ofNat_of_zero_le (show 0 ≤ idxP p l by omega)
        obtain ⟨x, h1, h2⟩ := idxP_get hj
        obtain rfl : i = j + 1 := by omega
        exact ⟨x, by simpa using h1, h2⟩
theorem cData_nil (k : Value) (w : World) : Calls Try.prog 14 #[.pointer none, k] w fun e w' => e = .returned (.tuple #[.slice none 0 0, .bool false]) ∧ w = w' := by
  go_enter Try.func14, Try.ntmps14
  go_wp2
  go_ret2
  exact ⟨rfl, rfl⟩
section
set_option maxHeartbeats 2000000
/-- What is told of a blob's bytes. -/
def DataTold (C : CV) (key : Str) (w w' : World) (e : Ending) : Prop :=
  (hasL C.staged key = false ∧ e = .returned (.tuple #[.slice none 0 0, .bool false])) ∨
  ∃ (d : Str) (v : Value), (∃ i : Nat, waitsC C key = (i : Int) ∧ C.staged[i]? = some (key, d)) ∧ d.length ≤ 512 ∧ e = .returned (.tuple #[v, .bool true]) ∧ OutAt w w' 5 v d.length (byteVals d)
theorem cData (F : Nat → Prop) (p N : Nat) (C : CV) (key : Str) (w : World) (h : CatAt F w p N C) :
    Calls Try.prog 14 #[.pointer (some ⟨p, 0, none⟩), encStr key] w fun e w' => DataTold C key w w' e ∧ Below w.heap.size w w' := by
  have H := Lib.hid h
  obtain ⟨sv, tv, SR, ER, be, bb, br, hr⟩ := h
  rcases Int.lt_or_le (waitsC C key) 0 with hw0 | hw0
  · have d1 : decide (waitsC C key < 0) = true := by simpa using hw0
    have HS := Lib.hid ((waitsC_neg C key).1 hw0)
    have hi := idxP_ge (isKey key) C.staged
    clear hw0 hr
    go_enter Try.func14, Try.ntmps14
    go_wp2_with (go_at_call 23; refine (cWaits F p N C key _ (by exact H.out)).mono ?_; rintro e w1 ⟨rfl, hb1⟩; have B1 := Lib.hid hb1; clear hb1)
    go_ret2
    exact ⟨.inl ⟨HS.out, rfl⟩, B1.out⟩
  · obtain ⟨i, hi⟩ := Int.eq_ofNat_of_zero_le hw0
    obtain ⟨q, hq, hk⟩ := idxP_get hi
    obtain ⟨qk, d⟩ := q
    have hk' : qk = key := by simpa [isKey] using hk
    subst hk'
    have hst := hr.stgs
    have hq' := hq
    rw [← hst, List.getElem?_map] at hq'
    obtain ⟨r, hr1, hr2⟩ := Option.map_eq_some_iff.1 hq'
    obtain ⟨rk, A, n, c, rd⟩ := r
    injection hr2 with e1 e2
    simp only at e1 e2
    subst e1 e2
    have hBO : Bys w 0 A n c rd := (hr.blobs _ (List.mem_of_getElem? hr1)).1
    have hd := (hr.wf.keys _ (List.mem_of_getElem? hq)).2.2
    have hn : rd.length = n := hBO.len
    have hlt : i < C.staged.length := (List.getElem?_eq_some_iff.1 hq).1
    obtain ⟨B, c0, rfl, hnc, hcm, hB⟩ := own_form hr.stg.1
    obtain ⟨g, rfl⟩ : ∃ g, B = some ⟨g, 0, none⟩ := by
      rcases hB with ⟨_, h, _⟩ | h
      · omega
      · exact h
    have ld0 : w.cell? ⟨p, 0, none⟩ = some (.slice (some ⟨g, 0, none⟩) C.staged.length c0) := hr.blk.cell 0
    have ld1 : w.cell? ⟨g, i * 2 + 1, none⟩ = some (.slice A n c) := hr.stg.row.cell (blobVals_get hr1).2
    have hp := hr.blk.size
    have hg : g < w.heap.size := (hr.stg.1.lt g rfl).2
    have d1 : decide (waitsC C rk < 0) = false := by simpa using hw0
    have HI := Lib.hid (show ∃ i : Nat, waitsC C rk = (i : Int) ∧ C.staged[i]? = some (rk, rd) from ⟨i, hi, hq⟩)
    have HB := Lib.hid hBO
    have hi' : waitsC C rk = (i : Int) := hi
    have HN := Lib.hid hn
    have HD := Lib.hid hd
    have hn512 : n ≤ 512 := by simp only at hd; omega
    clear hq hq' hst hr1 hr hBO hi hd hn hk
    rw [hi'] at d1
    generalize C.staged.length = sn at *
    go_enter Try.func14, Try.ntmps14
    go_wp2_with (first
      | (go_at_call 23; refine (cWaits F p N C rk _ (by exact H.out)).mono ?_; rintro e w1 ⟨rfl, hb1⟩; have B1 := Lib.hid hb1; rw [hi']; have ld0 := (hb1.cell (p := ⟨p, 0, none⟩) hp).trans ld0; have ld1 := (hb1.cell (p := ⟨g, i * 2 + 1, none⟩) hg).trans ld1; have hz1 := hb1.size; clear hb1)
      | (go_at_call 21; refine (bclone A n c rd _ HB.out.form (by omega) (BytesIn.keep HB.out.bytes (by simpa using B1.out.size) (fun b off _ hb => B1.out.block b hb))).mono ?_; rintro e w2 ⟨B2, k2, rfl, ho2, hb2⟩; have O2 := Lib.hid ho2; have B2' := Lib.hid (B1.out.trans (hb2.mono hz1)); clear ho2 hb2)
      | (go_at_call 33; refine (bclip _ B2 n k2 rd _ O2.out).mono ?_; rintro e w3 ⟨rfl, rfl⟩))
    go_ret2
    exact ⟨.inr ⟨rd, _, HI.out, HD.out, rfl, by rw [HN.out]; exact (OutAt.of_own O2.out).old hz1⟩, B2'.out⟩
end
end Go.Proofs.Ytmkccblcmiflfaa
