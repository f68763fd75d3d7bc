/- Bytes that were put, and that were got, may be changed, and the blob stays: the law ModelOwn returns true and leaves its arguments as they were. No condition. -/
import Derived.Test.YtgkgieemdjbhpaaMB3
import Derived.Test.YtgkgieemdjbhpaaO
import Derived.Test.YtgkgieemdjbhpaaO5
namespace Go.Proofs.Ytgkgieemdjbhpaa
open Go.ChangeShapes Go.WideShapes Go.ChangeAt Go.RowKit Go.Deep

set_option maxRecDepth 100000 in
theorem modelOwn_lifted (os : Os) (started : os.Started) (H : Type) (enc : TypeId × Value → H) :
    ReturnsInHanded {} Try.checked os 5 .any (Rows.modelOwnSpec.pre6 enc Try.prog Try.f5 Rows.modelOwnRow.domain false) (Rows.modelOwnSpec.post enc Try.prog Try.f5 false true false false) := by
  refine returnsInHanded_of_change_sized (C := Try.checked) own started (by kernel_rfl) Try.func5
    (ChangeSpec.witness6 (enc := enc) (C := Try.checked) false ⟨#[], #[.slice none 0 0, .int .u8 0], []⟩ 8 (by kernel_rfl) (by kernel_rfl) (by kernel_rfl) (by kernel_rfl)) ?_
  intro W base args ds gs before hval0 hW _ hsz _
  have hval : ∀ (j : Nat) t v, Try.f5.params[j]? = some t → args[j]? = some v → Value.okWide Try.prog W .any base t v := hval0
  clear hval0
  have hW' := hW
  obtain ⟨p, q, hA0, hV, _, _, _⟩ := hW'
  have hA : DataW.TrodAll enc Try.prog W 0 (fun _ => true) true Try.f5.params.toList args.toList ds p := hA0
  clear hA0
  rw [Try.params5] at hA hval
  obtain ⟨v0, vs0, d0, ds0, p0, q0, hargs, rfl, rfl, h0, r0⟩ := trodAll_cons hA
  obtain ⟨v1, vs1, d1, ds1, p1, q1, rfl, rfl, rfl, h1, r1⟩ := trodAll_cons r0
  obtain ⟨rfl, rfl, rfl⟩ := trodAll_nil r1
  obtain rfl : args = #[v0, v1] := by cases args; simp_all
  obtain ⟨rfl, rfl⟩ := trodVars_none hV
  have hsz' : (DataW.weightsEach Try.prog [29, 5] ([d0, d1] ++ [])).all (· ≤ reachBytes) = true := hsz
  obtain ⟨A, n, c, l, rfl, hnc, hcm, ha, _, hA0⟩ := open_bytes (hval 0 29 v0 rfl rfl) h0
  have hr : n ≤ 140737488351232 := by
    rcases open_bytes_len h0 with h | ⟨es, sp, rfl, hl⟩
    · omega
    · have := sized_slice hsz' (j := 0) (t := 29) (e := 5) rfl rfl Try.underlying29
      rw [show Try.prog.bytesOf 5 = 1 from by kernel_rfl] at this
      simp only [reachBytes] at this
      omega
  obtain ⟨k, rfl, rfl, rfl, _⟩ := open_int Try.underlying5 (hval 1 5 v1 rfl rfl) h1
  refine (modelOwn_walk A n c l W k ⟨hnc, hcm, hA0⟩ hr ha).mono fun e W' ⟨he, hb⟩ => ?_
  exact ⟨_, he, law_post laidOut (by kernel_rfl) rfl rfl Try.underlying4 hW rfl hb⟩

theorem modelOwn_holds : Rows.ModelOwnSaid :=
  OpenClaim.holds_of_wide 5 Try.f5 rfl rfl rfl rfl rfl rfl rfl ⟨rfl, rfl, rfl, rfl, rfl⟩ rfl rfl rfl rfl rfl (by kernel_rfl) Try.func5 (by kernel_rfl)
    (of_decide_eq_true (by kernel_rfl)) (by unfold Func.isWrapper; first | (rw [if_pos (by decide +kernel)]; kernel_rfl) | (rw [if_neg (by decide +kernel)]; exact ⟨rfl, rfl⟩))
    (fun os started H enc _ => modelOwn_lifted os started H enc)

end Go.Proofs.Ytgkgieemdjbhpaa
