/- A catalog answers to any notes as the document's catalog does, and tells the same: the law CatPlays returns true and leaves its arguments as they were. No condition. -/
import Derived.Test.YtmkccblcmiflfaaGreatPK1
import Derived.Test.YtmkccblcmiflfaaGreatPK3
import Derived.Test.YtmkccblcmiflfaaGreatPK6
import Derived.Test.YtmkccblcmiflfaaGreatPK16
import Derived.Deep.SlicePairs
import Derived.ChangeMaps5
namespace Go.Proofs.YtmkccblcmiflfaaGreat
open Go.ChangeShapes Go.WideShapes Go.ChangeAt Go.RowKit Go.Deep

theorem own : ownKnob Tryz.prog.godebug = none := by kernel_rfl
theorem laidOut : laidOutB Tryz.prog = true := by kernel_rfl
theorem byteCells : Tryz.prog.cellsOf 5 = 1 := by kernel_rfl

section
variable {H : Type} {enc : TypeId × Value → H} {w : World} {base : Nat} {spare : Nat → Bool} {held : Bool}
/-- Bytes that come in. -/
theorem open_bytes_cells {m : Nat} {v : Value} {y : DataW H × List MemPlace} (h : DataW.trod enc Tryz.prog w base spare held m 29 [v] = some y) :
    ∃ (A : Option Addr) (n c : Nat) (l : List UInt8), v = .slice A n c ∧ n ≤ c ∧ c ≤ maxLen ∧ BytesIn w A n l ∧ (n = 0 ∨ ∃ b off, A = some ⟨b, off, none⟩) ∧ (A = none → n = 0 ∧ c = 0) := by
  rcases open_ints Tryz.underlying29 Tryz.underlying5 byteCells h with ⟨hcs, _⟩ | ⟨a, n, c, zs, hcs, _, hl, hm, hz, _, hcell, hwf⟩
  · injection hcs with hcs
    subst hcs
    exact ⟨_, 0, 0, [], rfl, Nat.le_refl _, by simp [maxLen], BytesIn.empty _ _, .inl rfl, fun _ => ⟨rfl, rfl⟩⟩
  · injection hcs with hcs
    subst hcs
    have hnz : n ≤ zs.length := by rw [hz]; split <;> omega
    rcases Nat.eq_zero_or_pos n with h0 | h0
    · subst h0
      exact ⟨_, 0, c, [], rfl, hl, hm, BytesIn.empty _ _, .inl rfl, fun h => by cases h⟩
    · have h1 := hcell 0 (by omega)
      have hlt := World.block_lt_of_cell? _ _ h1
      have ea := addr_of_cell h1
      obtain ⟨b, o, sp⟩ := a
      injection ea with _ _ ea
      subst ea
      rw [add_plain] at hlt
      refine ⟨_, n, c, (zs.take n).map fun z => UInt8.ofNat z.toNat, rfl, hl, hm, ⟨by simp; omega, .inr ⟨b, o, rfl, hlt, fun i u hu => ?_⟩⟩, .inr ⟨b, o, rfl⟩, fun h => by cases h⟩
      have hi : i < n := by
        have := (List.getElem?_eq_some_iff.1 hu).1
        simp at this
        omega
      have hc := hcell i (by omega)
      rw [add_plain] at hc
      have hz' : zs.getD i 0 = zs[i]'(by omega) := by simp [List.getD_eq_getElem?_getD, show i < zs.length by omega]
      have hr : 0 ≤ zs[i]'(by omega) ∧ zs[i]'(by omega) ≤ 255 := by
        have hw := hwf _ (List.getElem_mem (l := zs) (n := i) (by omega))
        simpa [Lit.wf, IntKind.min, IntKind.max, IntKind.signed, IntKind.bits] using hw
      have hu' : UInt8.ofNat (zs[i]'(by omega)).toNat = u := by
        simp [hi, show i < zs.length by omega] at hu
        exact hu
      rw [hc, hz', ← hu']
      have e : ((UInt8.ofNat (zs[i]'(by omega)).toNat).toNat : Int) = zs[i]'(by omega) := by
        rw [UInt8.toNat_ofNat']
        omega
      rw [e]
end
end Go.Proofs.YtmkccblcmiflfaaGreat

namespace Go.Proofs.YtmkccblcmiflfaaGreat
open Go.ChangeShapes Go.WideShapes Go.ChangeAt Go.RowKit Go.Deep

theorem placeCells : Tryz.prog.cellsOf 95 = 2 := by kernel_rfl
theorem noteCells8 : Tryz.prog.cellsOf 32 = 8 := by kernel_rfl
section
variable {H : Type} {enc : TypeId × Value → H} {w : World} {base : Nat} {spare : Nat → Bool} {held : Bool}
theorem open_places {m : Nat} {v : Value} {y : DataW H × List MemPlace} (h : DataW.trod enc Tryz.prog w base spare held m 30 [v] = some y) :
    ∃ (Q : Option Addr) (n c : Nat) (l : Pls), v = .slice Q n c ∧ Form Q n c ∧ PlacesIn w Q n l ∧ (0 < n → ∀ b off, Q = some ⟨b, off, none⟩ → b < w.heap.size) := by
  rcases open_slice_pairs Tryz.underlying30 Tryz.underlying95 placeCells rfl rfl (by kernel_rfl) (by kernel_rfl) h with ⟨hcs, _⟩ | ⟨a, n, c, m', q, V0, V1, D0, D1, P0, P1, hcs, _, hl, hm, hmm, _, hx⟩
  · injection hcs with hcs
    subst hcs
    exact ⟨none, 0, 0, [], rfl, ⟨Nat.le_refl _, by simp [maxLen], fun _ => ⟨rfl, rfl⟩⟩, ⟨rfl, .inl ⟨rfl, rfl⟩⟩, fun h => by omega⟩
  · injection hcs with hcs
    subst hcs
    have hnm : n ≤ m' := by rw [hmm]; split <;> omega
    rcases Nat.eq_zero_or_pos n with h0 | h0
    · subst h0
      exact ⟨_, 0, c, [], rfl, ⟨hl, hm, fun h => by cases h⟩, ⟨rfl, .inl ⟨rfl, rfl⟩⟩, fun h => by omega⟩
    · have h1 := (hx 0 (by omega)).1
      have hlt := World.block_lt_of_cell? _ _ h1
      have ea := addr_of_cell h1
      obtain ⟨b, o, sp⟩ := a
      injection ea with _ _ ea
      subst ea
      rw [add_plain] at hlt
      have key : ∀ i, i < n → ∃ q : Int × Int, w.cell? ⟨b, o + i * 2, none⟩ = some (.int .i64 q.1) ∧ w.cell? ⟨b, o + (i * 2 + 1), none⟩ = some (.int .i64 q.2) := by
        intro i hi
        obtain ⟨c0, c1, t0, t1⟩ := hx i (by omega)
        obtain ⟨z0, e0, _⟩ := DataW.trod_int Tryz.underlying3 t0
        obtain ⟨z1, e1, _⟩ := DataW.trod_int Tryz.underlying3 t1
        injection e0 with e0
        injection e1 with e1
        rw [add_plain, e0] at c0
        rw [add_plain, e1] at c1
        exact ⟨(z0, z1), c0, c1⟩
      refine ⟨_, n, c, (List.range n).map fun i => if h : i < n then Classical.choose (key i h) else (0, 0), rfl, ⟨hl, hm, fun h => by cases h⟩, ⟨by simp, .inr ⟨b, o, rfl, fun j u hu => ?_⟩⟩, fun _ b' off' e => by cases e; exact hlt⟩
      have hj : j < n * 2 := by
        have := (List.getElem?_eq_some_iff.1 hu).1
        rw [placeVals_len] at this
        simpa using this
      have hq : j / 2 < n := by omega
      have hg : ((List.range n).map fun i => if h : i < n then Classical.choose (key i h) else (0, 0))[j / 2]? = some (Classical.choose (key (j / 2) hq)) := by simp [hq]
      have hs := Classical.choose_spec (key (j / 2) hq)
      have hp := placeVals_get hg
      rcases Nat.mod_two_eq_zero_or_one j with h2 | h2
      · have ej : j = j / 2 * 2 := by omega
        rw [ej] at hu ⊢
        rw [hp.1] at hu
        injection hu with hu
        rw [← hu]
        exact hs.1
      · have ej : j = j / 2 * 2 + 1 := by omega
        rw [ej] at hu ⊢
        rw [hp.2] at hu
        injection hu with hu
        rw [← hu]
        exact hs.2
theorem note_fields {m0 : Nat} {u0 : Value} {y0 : DataW H × List MemPlace} (t0 : DataW.trod enc Tryz.prog w base spare held m0 3 [u0] = some y0) {m1 : Nat} {u1 : Value} {y1 : DataW H × List MemPlace} (t1 : DataW.trod enc Tryz.prog w base spare held m1 9 [u1] = some y1) {m2 : Nat} {u2 : Value} {y2 : DataW H × List MemPlace} (t2 : DataW.trod enc Tryz.prog w base spare held m2 3 [u2] = some y2) {m3 : Nat} {u3 : Value} {y3 : DataW H × List MemPlace} (t3 : DataW.trod enc Tryz.prog w base spare held m3 3 [u3] = some y3) {m4 : Nat} {u4 : Value} {y4 : DataW H × List MemPlace} (t4 : DataW.trod enc Tryz.prog w base spare held m4 29 [u4] = some y4) {m5 : Nat} {u5 : Value} {y5 : DataW H × List MemPlace} (t5 : DataW.trod enc Tryz.prog w base spare held m5 9 [u5] = some y5) {m6 : Nat} {u6 : Value} {y6 : DataW H × List MemPlace} (t6 : DataW.trod enc Tryz.prog w base spare held m6 3 [u6] = some y6) {m7 : Nat} {u7 : Value} {y7 : DataW H × List MemPlace} (t7 : DataW.trod enc Tryz.prog w base spare held m7 30 [u7] = some y7) :
    ∃ r : NoteA, r.cells = [u0, u1, u2, u3, u4, u5, u6, u7] ∧ NoteOk w r := by
  obtain ⟨z0, e0, _, w0⟩ := DataW.trod_int Tryz.underlying3 t0
  injection e0 with e0
  subst e0
  obtain ⟨z2, e2, _, w2⟩ := DataW.trod_int Tryz.underlying3 t2
  injection e2 with e2
  subst e2
  obtain ⟨z3, e3, _, w3⟩ := DataW.trod_int Tryz.underlying3 t3
  injection e3 with e3
  subst e3
  obtain ⟨z6, e6, _, w6⟩ := DataW.trod_int Tryz.underlying3 t6
  injection e6 with e6
  subst e6
  obtain ⟨s1, e1, _, w1⟩ := DataW.trod_string Tryz.underlying9 t1
  injection e1 with e1
  subst e1
  obtain ⟨s5, e5, _, w5⟩ := DataW.trod_string Tryz.underlying9 t5
  injection e5 with e5
  subst e5
  obtain ⟨D, dn, dc, l, rfl, hmd, hdm, hbs, _, hA0⟩ := open_bytes_cells t4
  obtain ⟨Q, qn, qc, pl, rfl, hpf, hpl, hpo⟩ := open_places t7
  refine ⟨⟨⟨z0, s1.data.toList, z2, z3, l, s5.data.toList, z6, pl⟩, D, dn, dc, Q, qn, qc⟩, ?_, ⟨⟨⟨hmd, hdm, hA0⟩, hbs, hpf, hpl, ?_, ?_, w2, w3, w6⟩, hpo⟩⟩
  · simp [NoteA.cells, encStr]
  · show s1.data.toList.length ≤ maxLen
    rw [Array.length_toList]
    exact w1
  · show s5.data.toList.length ≤ maxLen
    rw [Array.length_toList]
    exact w5
set_option maxRecDepth 100000 in
theorem open_notes {r : Reach} {b0 : Nat} {v : Value} {d : DataW H} {p : List MemPlace} (hv : Value.okWide Tryz.prog w r b0 22 v) (h : DataW.Trod enc Tryz.prog w base spare held 22 v d p) :
    ∃ (A : Option Addr) (n c : Nat) (f : Nat → NoteA), v = .slice A n c ∧ n ≤ c ∧ c ≤ maxLen ∧ NotesIn w A n f := by
  obtain ⟨A, n, c, rfl, hnc, hc, hr⟩ := open_rows Tryz.underlying22 Tryz.underlying32 (by kernel_rfl) noteCells8 (by simp) hv h
  rcases hr with rfl | ⟨b, off, rfl, hb, hx⟩
  · exact ⟨A, 0, c, fun _ => ⟨⟨0, [], 0, 0, [], [], 0, []⟩, none, 0, 0, none, 0, 0⟩, rfl, hnc, hc, .inl rfl⟩
  · have key : ∀ i, i < n → ∃ r : NoteA, NoteOk w r ∧ ∀ t u, r.cells[t]? = some u → w.cell? ⟨b, off + i * 8 + t, none⟩ = some u := by
      intro i hi
      obtain ⟨u0, y0, m0, c0, t0⟩ := hx i 0 _ hi rfl
      obtain ⟨u1, y1, m1, c1, t1⟩ := hx i 1 _ hi rfl
      obtain ⟨u2, y2, m2, c2, t2⟩ := hx i 2 _ hi rfl
      obtain ⟨u3, y3, m3, c3, t3⟩ := hx i 3 _ hi rfl
      obtain ⟨u4, y4, m4, c4, t4⟩ := hx i 4 _ hi rfl
      obtain ⟨u5, y5, m5, c5, t5⟩ := hx i 5 _ hi rfl
      obtain ⟨u6, y6, m6, c6, t6⟩ := hx i 6 _ hi rfl
      obtain ⟨u7, y7, m7, c7, t7⟩ := hx i 7 _ hi rfl
      obtain ⟨r, hr, hok⟩ := note_fields t0 t1 t2 t3 t4 t5 t6 t7
      refine ⟨r, hok, fun t u hu => ?_⟩
      rw [hr] at hu
      rw [Nat.add_assoc]
      match t, hu with
      | 0, hu => exact (Option.some.inj hu) ▸ c0
      | 1, hu => exact (Option.some.inj hu) ▸ c1
      | 2, hu => exact (Option.some.inj hu) ▸ c2
      | 3, hu => exact (Option.some.inj hu) ▸ c3
      | 4, hu => exact (Option.some.inj hu) ▸ c4
      | 5, hu => exact (Option.some.inj hu) ▸ c5
      | 6, hu => exact (Option.some.inj hu) ▸ c6
      | 7, hu => exact (Option.some.inj hu) ▸ c7
      | t + 8, hu => simp at hu
    refine ⟨_, n, c, fun i => if h : i < n then Classical.choose (key i h) else ⟨⟨0, [], 0, 0, [], [], 0, []⟩, none, 0, 0, none, 0, 0⟩, rfl, hnc, hc, .inr ⟨b, off, rfl, hb, fun i hi => ?_⟩⟩
    simp only [dif_pos hi]
    exact Classical.choose_spec (key i hi)
end
end Go.Proofs.YtmkccblcmiflfaaGreat

namespace Go.Proofs.YtmkccblcmiflfaaGreat
open Go.ChangeShapes Go.WideShapes Go.ChangeAt Go.RowKit Go.Deep

set_option maxRecDepth 100000 in
theorem catPlays_lifted (os : Os) (started : os.Started) (H : Type) (enc : TypeId × Value → H) :
    ReturnsInHanded {} Tryz.checked os 5 .any (Rows.catPlaysSpec.pre6 enc Tryz.prog Tryz.f5 Rows.catPlaysRow.domain false) (Rows.catPlaysSpec.post enc Tryz.prog Tryz.f5 false true false false) := by
  refine returnsInHanded_of_change_sized (C := Tryz.checked) own started (by kernel_rfl) Tryz.func5
    (ChangeSpec.witness6 (enc := enc) (C := Tryz.checked) false ⟨#[], #[.slice none 0 0, .string ⟨#[]⟩], []⟩ 8 (by kernel_rfl) (by kernel_rfl) (by kernel_rfl) (by kernel_rfl)) ?_
  intro W base args ds gs before hval0 hW _ _ _
  have hval : ∀ (j : Nat) t v, Tryz.f5.params[j]? = some t → args[j]? = some v → Value.okWide Tryz.prog W .any base t v := hval0
  clear hval0
  have hW' := hW
  obtain ⟨p, q, hA0, hV, _, _, _⟩ := hW'
  have hA : DataW.TrodAll enc Tryz.prog W 0 (fun _ => true) true Tryz.f5.params.toList args.toList ds p := hA0
  clear hA0
  rw [Tryz.params5] at hA hval
  obtain ⟨v0, vs0, d0, ds0, p0, q0, hargs, rfl, rfl, h0, r0⟩ := trodAll_cons hA
  obtain ⟨v1, vs1, d1, ds1, p1, q1, rfl, rfl, rfl, h1, r1⟩ := trodAll_cons r0
  obtain ⟨rfl, rfl, rfl⟩ := trodAll_nil r1
  obtain rfl : args = #[v0, v1] := by cases args; simp_all
  obtain ⟨rfl, rfl⟩ := trodVars_none hV
  obtain ⟨A, n, c, f, rfl, hnc, hcm, hNI⟩ := open_notes (hval 0 22 v0 rfl rfl) h0
  obtain ⟨s, rfl, rfl, rfl, hs⟩ := Go.ChangeMaps.open_string Tryz.underlying9 (hval 1 9 v1 rfl rfl) h1
  obtain ⟨key0, rfl⟩ : ∃ l : List UInt8, s = ⟨l.toArray⟩ := ⟨s.data.toList, by simp⟩
  have hk0 : key0.length ≤ maxLen := by have h : key0.toArray.size ≤ maxLen := hs; simpa using h
  refine (catPlays_walk A n c f key0 W hNI hnc hcm hk0).mono fun e W' ⟨he, hb⟩ => ?_
  exact ⟨_, he, law_post laidOut (by kernel_rfl) rfl rfl Tryz.underlying4 hW rfl hb⟩

theorem catPlays_holds : Rows.CatPlaysSaid :=
  OpenClaim.holds_of_wide 5 Tryz.f5 rfl rfl rfl rfl rfl rfl rfl ⟨rfl, rfl, rfl, rfl, rfl⟩ rfl rfl rfl rfl rfl (by kernel_rfl) Tryz.func5 (by kernel_rfl)
    (of_decide_eq_true (by kernel_rfl)) (by unfold Func.isWrapper; first | (rw [if_pos (by decide +kernel)]; kernel_rfl) | (rw [if_neg (by decide +kernel)]; exact ⟨rfl, rfl⟩))
    (fun os started H enc _ => catPlays_lifted os started H enc)

end Go.Proofs.YtmkccblcmiflfaaGreat
