/- What was handed in, and what was read, may be changed: the record stays: the law CartOwn returns true and leaves its arguments as they were. No condition. -/
import Derived.Test.YtiiilimmjoadeaaCb4
import Derived.Test.YtiiilimmjoadeaaO
namespace Go.Proofs.Ytiiilimmjoadeaa
open Go.ChangeShapes Go.WideShapes Go.ChangeAt Go.RowKit Go.Deep

set_option maxRecDepth 100000 in
theorem cartOwn_lifted (os : Os) (started : os.Started) (H : Type) (enc : TypeId × Value → H) :
    ReturnsInHanded {} Try.checked os 3 .any (Rows.cartOwnSpec.pre6 enc Try.prog Try.f3 Rows.cartOwnRow.domain false) (Rows.cartOwnSpec.post enc Try.prog Try.f3 false true false false) := by
  refine returnsInHanded_of_change_sized (C := Try.checked) own started (by kernel_rfl) Try.func3
    (ChangeSpec.witness6 (enc := enc) (C := Try.checked) false ⟨#[], #[.slice none 0 0, .int .u8 0], []⟩ 8 (by kernel_rfl) (by kernel_rfl) (by kernel_rfl) (by kernel_rfl)) ?_
  intro W base args ds gs before hval0 hW _ hsz _
  have hval : ∀ (j : Nat) t v, Try.f3.params[j]? = some t → args[j]? = some v → Value.okWide Try.prog W .any base t v := hval0
  clear hval0
  have hW' := hW
  obtain ⟨p, q, hA0, hV, _, _, _⟩ := hW'
  have hA : DataW.TrodAll enc Try.prog W 0 (fun _ => true) true Try.f3.params.toList args.toList ds p := hA0
  clear hA0
  rw [Try.params3] at hA hval
  obtain ⟨v0, vs0, d0, ds0, p0, q0, hargs, rfl, rfl, h0, r0⟩ := trodAll_cons hA
  obtain ⟨v1, vs1, d1, ds1, p1, q1, rfl, rfl, rfl, h1, r1⟩ := trodAll_cons r0
  obtain ⟨rfl, rfl, rfl⟩ := trodAll_nil r1
  obtain rfl : args = #[v0, v1] := by cases args; simp_all
  obtain ⟨rfl, rfl⟩ := trodVars_none hV
  have hsz' : (DataW.weightsEach Try.prog [22, 5] ([d0, d1] ++ [])).all (· ≤ reachBytes) = true := hsz
  obtain ⟨A, n, c, l, rfl, _, _, ha, hAA, hA0⟩ := open_bytes (hval 0 22 v0 rfl rfl) h0
  have hr : n ≤ 140737488351232 := by
    rcases open_bytes_len h0 with h | ⟨es, sp, rfl, hl⟩
    · omega
    · have := sized_slice hsz' (j := 0) (t := 22) (e := 5) rfl rfl Try.underlying22
      rw [show Try.prog.bytesOf 5 = 1 from by kernel_rfl] at this
      simp only [reachBytes] at this
      omega
  obtain ⟨k, rfl, rfl, rfl, _⟩ := open_int Try.underlying5 (hval 1 5 v1 rfl rfl) h1
  refine (cartOwn_walk A n c l W k hr ha hAA hA0).mono fun e W' ⟨he, hb⟩ => ?_
  exact ⟨_, he, law_post laidOut (by kernel_rfl) rfl rfl Try.underlying4 hW rfl hb⟩

theorem cartOwn_holds : Rows.CartOwnSaid :=
  OpenClaim.holds_of_wide 3 Try.f3 rfl rfl rfl rfl rfl rfl rfl ⟨rfl, rfl, rfl, rfl, rfl⟩ rfl rfl rfl rfl rfl (by kernel_rfl) Try.func3 (by kernel_rfl)
    (of_decide_eq_true (by kernel_rfl)) (by unfold Func.isWrapper; first | (rw [if_pos (by decide +kernel)]; kernel_rfl) | (rw [if_neg (by decide +kernel)]; exact ⟨rfl, rfl⟩))
    (fun os started H enc _ => cartOwn_lifted os started H enc)

end Go.Proofs.Ytiiilimmjoadeaa
