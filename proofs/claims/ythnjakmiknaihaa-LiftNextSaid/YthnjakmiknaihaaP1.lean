/- For any list of requests, any heads, any time and age, the program's Next and the reference's Next give the same answer: the law LiftNext returns true and leaves its arguments as they were. No condition. -/
import Derived.Test.YthnjakmiknaihaaL1
import Derived.Test.YthnjakmiknaihaaK
namespace Go.Proofs.Ythnjakmiknaihaa
open Go.ChangeShapes Go.WideShapes Go.ChangeAt Go.RowKit Go.Deep

theorem own : ownKnob Try.prog.godebug = none := by kernel_rfl
theorem laidOut : laidOutB Try.prog = true := by kernel_rfl
theorem askCells : Try.prog.cellsOf 32 = 6 := by kernel_rfl
theorem headCells : Try.prog.cellsOf 35 = 2 := by kernel_rfl

section
variable {H : Type} {enc : TypeId × Value → H} {w : World} {base : Nat} {spare : Nat → Bool} {held : Bool}

/-- A list of requests that comes in. -/
theorem open_asks {r : Reach} {b0 : Nat} {v : Value} {d : DataW H} {p : List MemPlace} (hv : Value.okWide Try.prog w r b0 22 v) (h : DataW.Trod enc Try.prog w base spare held 22 v d p) :
    ∃ (A : Option Addr) (n c : Nat) (f : Nat → Ask), v = .slice A n c ∧ n ≤ c ∧ c ≤ 9223372036854775807 ∧ (InArg w A n fun b off => AsksAt w b off n f) ∧ ∀ i, i < n → I64 (f i).born := by
  obtain ⟨A, n, c, rfl, hnc, hc, hr⟩ := open_rows Try.underlying22 Try.underlying32 (by kernel_rfl) askCells (by simp) hv h
  have hc' : c ≤ 9223372036854775807 := by simpa [maxLen] using hc
  rcases hr with rfl | ⟨b, off, rfl, hb, hx⟩
  · exact ⟨A, 0, c, fun _ => ⟨0, 0, 0, 0, 0, 0⟩, rfl, hnc, hc', .inl rfl, fun i hi => absurd hi (by omega)⟩
  · have h0 := fun i hi => cell_i64 (k := 6) rfl hx (j := 0) rfl Try.underlying3 i hi
    have h1 := fun i hi => cell_i64 (k := 6) rfl hx (j := 1) rfl Try.underlying3 i hi
    have h2 := fun i hi => cell_i64 (k := 6) rfl hx (j := 2) rfl Try.underlying3 i hi
    have h3 := fun i hi => cell_i64 (k := 6) rfl hx (j := 3) rfl Try.underlying3 i hi
    have h4 := fun i hi => cell_i64 (k := 6) rfl hx (j := 4) rfl Try.underlying3 i hi
    have h5 := fun i hi => cell_i64 (k := 6) rfl hx (j := 5) rfl Try.underlying3 i hi
    refine ⟨_, n, c, fun i => ⟨cellInt w b (off + i * 6), cellInt w b (off + i * 6 + 1), cellInt w b (off + i * 6 + 2), cellInt w b (off + i * 6 + 3), cellInt w b (off + i * 6 + 4), cellInt w b (off + i * 6 + 5)⟩, rfl, hnc, hc', .inr ⟨b, off, rfl, hb, ?_⟩, fun i hi => (h5 i hi).2⟩
    exact ⟨fun i hi => (h0 i hi).1, fun i hi => (h1 i hi).1, fun i hi => (h2 i hi).1, fun i hi => (h3 i hi).1, fun i hi => (h4 i hi).1, fun i hi => (h5 i hi).1⟩

/-- A list of heads that comes in. -/
theorem open_heads {r : Reach} {b0 : Nat} {v : Value} {d : DataW H} {p : List MemPlace} (hv : Value.okWide Try.prog w r b0 23 v) (h : DataW.Trod enc Try.prog w base spare held 23 v d p) :
    ∃ (A : Option Addr) (n c : Nat) (f : Nat → Hd), v = .slice A n c ∧ n ≤ c ∧ c ≤ 9223372036854775807 ∧ (InArg w A n fun b off => HeadsAt w b off n f) := by
  obtain ⟨A, n, c, rfl, hnc, hc, hr⟩ := open_rows Try.underlying23 Try.underlying35 (by kernel_rfl) headCells (by simp) hv h
  have hc' : c ≤ 9223372036854775807 := by simpa [maxLen] using hc
  rcases hr with rfl | ⟨b, off, rfl, hb, hx⟩
  · exact ⟨A, 0, c, fun _ => ⟨0, 0⟩, rfl, hnc, hc', .inl rfl⟩
  · have h0 := fun i hi => cell_i64 (k := 2) rfl hx (j := 0) rfl Try.underlying3 i hi
    have h1 := fun i hi => cell_i64 (k := 2) rfl hx (j := 1) rfl Try.underlying3 i hi
    exact ⟨_, n, c, fun i => ⟨cellInt w b (off + i * 2), cellInt w b (off + i * 2 + 1)⟩, rfl, hnc, hc', .inr ⟨b, off, rfl, hb, fun i hi => (h0 i hi).1, fun i hi => (h1 i hi).1⟩⟩
end

set_option maxRecDepth 100000 in
theorem liftNext_lifted (os : Os) (started : os.Started) (H : Type) (enc : TypeId × Value → H) :
    ReturnsInHanded {} Try.checked os 3 .any (Rows.liftNextSpec.pre6 enc Try.prog Try.f3 Rows.liftNextRow.domain false) (Rows.liftNextSpec.post enc Try.prog Try.f3 false true false false) := by
  refine returnsInHanded_of_change_sized (C := Try.checked) own started (by kernel_rfl) Try.func3
    (ChangeSpec.witness6 (enc := enc) (C := Try.checked) false ⟨#[], #[.slice none 0 0, .slice none 0 0, .int .i64 0, .int .i64 0], []⟩ 8 (by kernel_rfl) (by kernel_rfl) (by kernel_rfl) (by kernel_rfl)) ?_
  intro W base args ds gs before hval0 hW _ _ _
  have hval : ∀ (j : Nat) t v, Try.f3.params[j]? = some t → args[j]? = some v → Value.okWide Try.prog W .any base t v := hval0
  clear hval0
  have hW' := hW
  obtain ⟨p, q, hA0, hV, _, _, _⟩ := hW'
  have hA : DataW.TrodAll enc Try.prog W 0 (fun _ => true) true Try.f3.params.toList args.toList ds p := hA0
  clear hA0
  rw [Try.params3] at hA hval
  obtain ⟨v0, vs0, d0, ds0, p0, q0, hargs, rfl, rfl, h0, r0⟩ := trodAll_cons hA
  obtain ⟨v1, vs1, d1, ds1, p1, q1, rfl, rfl, rfl, h1, r1⟩ := trodAll_cons r0
  obtain ⟨v2, vs2, d2, ds2, p2, q2, rfl, rfl, rfl, h2, r2⟩ := trodAll_cons r1
  obtain ⟨v3, vs3, d3, ds3, p3, q3, rfl, rfl, rfl, h3, r3⟩ := trodAll_cons r2
  obtain ⟨rfl, rfl, rfl⟩ := trodAll_nil r3
  obtain rfl : args = #[v0, v1, v2, v3] := by cases args; simp_all
  obtain ⟨rfl, rfl⟩ := trodVars_none hV
  obtain ⟨A, n, c, f, rfl, hnc, hc, hx, hI⟩ := open_asks (hval 0 22 v0 rfl rfl) h0
  obtain ⟨B, m, e, g, rfl, hme, he, hg⟩ := open_heads (hval 1 23 v1 rfl rfl) h1
  obtain ⟨now, rfl, rfl, rfl, w2⟩ := open_int Try.underlying3 (hval 2 3 v2 rfl rfl) h2
  obtain ⟨age, rfl, rfl, rfl, w3⟩ := open_int Try.underlying3 (hval 3 3 v3 rfl rfl) h3
  refine (liftNext_walk A B n c m e f g now age W hnc hc hme he hx hg (i64_of_wf w2) (i64_of_wf w3) hI).mono fun e W' ⟨he, hb⟩ => ?_
  exact ⟨_, he, law_post laidOut (by kernel_rfl) rfl rfl Try.underlying4 hW rfl hb⟩

theorem liftNext_holds : Rows.LiftNextSaid :=
  OpenClaim.holds_of_wide 3 Try.f3 rfl rfl rfl rfl rfl rfl rfl ⟨rfl, rfl, rfl, rfl, rfl⟩ rfl rfl rfl rfl rfl (by kernel_rfl) Try.func3 (by kernel_rfl)
    (of_decide_eq_true (by kernel_rfl)) (by unfold Func.isWrapper; first | (rw [if_pos (by decide +kernel)]; kernel_rfl) | (rw [if_neg (by decide +kernel)]; exact ⟨rfl, rfl⟩))
    (fun os started H enc _ => liftNext_lifted os started H enc)

end Go.Proofs.Ythnjakmiknaihaa
