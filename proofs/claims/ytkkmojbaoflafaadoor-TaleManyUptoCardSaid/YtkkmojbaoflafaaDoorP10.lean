/- Steps' lines, one behind the other, are read as these steps, and a line that is none among them is told by its number: the law TaleMany returns true and leaves its arguments as they were, where what it reads is of at most 1048576 parts. -/
import Derived.Test.YtkkmojbaoflafaaDoorYO2
import Derived.Test.YtkkmojbaoflafaaDoorYO
namespace Go.Proofs.YtkkmojbaoflafaaDoor
open Go.ChangeShapes Go.WideShapes Go.ChangeAt Go.RowKit Go.Deep

theorem taleMany_reads (os : Os) {H : Type} (enc : TypeId × Value → H) : ∃ places, DataW.whole enc Tryd.prog ((World.laidAll Tryd.prog os Rows.taleManyUptoRow.laid).forCall (fun _ _ => 0) ⟨#[], #[.slice none 0 0, .string ⟨#[]⟩, .bool false], []⟩).memory Tryd.f6.params.toList Rows.taleManySpec.vars false #[.slice none 0 0, .string ⟨#[]⟩, .bool false].toList 8 = some ([.nil, .lit (.string []), .lit (.bool false)], [], places) :=
  ⟨[], by kernel_rfl⟩
set_option maxRecDepth 100000 in
theorem taleMany_lifted (os : Os) (started : os.Started) (H : Type) (enc : TypeId × Value → H) (F : Stop.Interp) :
    ReturnsInHanded {} Tryd.checked os 6 .any ((Rows.OpenSpec.upto Rows.taleManySpec).preRow enc Tryd.prog Tryd.f6 Rows.taleManyUptoRow.domain false Rows.taleManyUptoRow.laid) (((Rows.OpenSpec.upto Rows.taleManySpec).at F).post enc Tryd.prog Tryd.f6 false true false false) := by
  obtain ⟨places, hx⟩ := taleMany_reads os enc
  refine returnsInHanded_of_row (C := Tryd.checked) (s := Rows.OpenSpec.upto Rows.taleManySpec) own started (by kernel_rfl) Tryd.func6
    (witness_laid (enc := enc) (C := Tryd.checked) (World.laidAll Tryd.prog os Rows.taleManyUptoRow.laid) #[.slice none 0 0, .string ⟨#[]⟩, .bool false] (World.laidAll_os _ _ _)
      (World.shaped_of_ZipB (by kernel_rfl) (by kernel_rfl)) (by kernel_rfl)
      (OpenSpec.preRow_of_cond 8 hx (by kernel_rfl) (fun k hk => by cases hk; kernel_rfl) (by kernel_rfl) (by rw [MakeChecks.laidMetH_plain _ _ _ (by kernel_rfl)]; exact laidMet_laidAll _ (by kernel_rfl) (by kernel_rfl)))) ?_
  intro W base args ds gs before hval0 hW _ hcond _ hL _ _
  have hval : ∀ (j : Nat) t v, Tryd.f6.params[j]? = some t → args[j]? = some v → Value.okWide Tryd.prog W .any base t v := hval0
  clear hval0
  have hW' := hW
  obtain ⟨p, q, hA0, hV, _, _, _⟩ := hW'
  have hA : DataW.TrodAll enc Tryd.prog W 0 (fun _ => true) true Tryd.f6.params.toList args.toList ds p := hA0
  clear hA0
  rw [Tryd.params6] at hA hval
  obtain ⟨v0, vs0, d0, ds0, p0, q0, hargs, rfl, rfl, h0, r0⟩ := trodAll_cons hA
  obtain ⟨v1, vs1, d1, ds1, p1, q1, rfl, rfl, rfl, h1, r1⟩ := trodAll_cons r0
  obtain ⟨v2, vs2, d2, ds2, p2, q2, rfl, rfl, rfl, h2, r2⟩ := trodAll_cons r1
  obtain ⟨rfl, rfl, rfl⟩ := trodAll_nil r2
  obtain rfl : args = #[v0, v1, v2] := by cases args; simp_all
  obtain ⟨rfl, rfl⟩ := trodVars_none hV
  have he := env_laid hL
  have hbulk := of_decide_eq_true (hcond _ rfl)
  simp only [List.append_nil, Rows.uptoBulkAll] at hbulk
  obtain ⟨XA, xn, xc, F, rfl, hin⟩ := open_steps (hval 0 38 v0 rfl rfl) h0 (by omega)
  obtain ⟨odd, rfl, hodd⟩ : ∃ s : Str, v1 = strV s ∧ s.length ≤ Rows.uptoBulk d1 := by
    obtain ⟨s, rfl⟩ := okWide_string Tryd.underlying9 (hval 1 9 v1 rfl rfl)
    obtain ⟨fuel, h1⟩ := h1
    obtain ⟨s1, e1, hx1, _⟩ := DataW.trod_string Tryd.underlying9 h1
    injection e1 with e1
    injection e1 with e1
    refine ⟨s.data.toList, by simp [strV], ?_⟩
    injection hx1 with hd _
    rw [hd, e1]
    simp only [Rows.uptoBulk]
    omega
  obtain ⟨last, rfl⟩ := okWide_bool Tryd.underlying4 (hval 2 4 v2 rfl rfl)
  refine (many_walk XA xn xc F odd last W he hin (by omega)).mono fun e W' ⟨he, hb⟩ => ?_
  exact ⟨_, he, law_post laidOut (by kernel_rfl) rfl rfl Tryd.underlying4 hW rfl hb⟩

theorem taleMany_said : Rows.TaleManyUptoSaid :=
  OpenClaim.holds_of_cond 6 Tryd.f6 rfl rfl rfl rfl rfl rfl rfl ⟨rfl, rfl, rfl, rfl, rfl⟩ rfl rfl rfl rfl rfl (by kernel_rfl) Tryd.func6 (by kernel_rfl)
    (of_decide_eq_true (by kernel_rfl)) (by unfold Func.isWrapper; first | (rw [if_pos (by decide +kernel)]; kernel_rfl) | (rw [if_neg (by decide +kernel)]; exact ⟨rfl, rfl⟩))
    (fun os started H enc _ F => by rw [OpenClaim.pre_eq_preRow]; exact taleMany_lifted os started H enc F)

theorem taleMany_holds : Rows.TaleManyUptoCardSaid :=
  Claim7.holds_tied_plain_at .later [] [.data, .data, .data, .data, .sentinel, .sentinel, .pinned] true (true, "caa206cce1a0a44c8a6acfff8a9ed56e22636ea2ba5cbe11e301c1b3f65261fc") true taleMany_said (fun _ h => by cases h) (by kernel_rfl) (fun _ h => by cases h) taleManyUpto_row_tie rfl ⟨rfl, rfl⟩ (by kernel_rfl) rfl
    (fun f fn hf hfn => by
      obtain rfl : f = 6 := Option.some.inj ((show Tryd.prog.funcNamed "kist/kistlaw24.TaleMany" = some 6 by kernel_rfl).symm.trans hf) |>.symm
      obtain rfl : fn = Tryd.f6 := (Option.some.inj (Tryd.func6.symm.trans hfn)).symm
      exact ⟨by kernel_rfl, fun j t ht => by
        rw [Tryd.params6] at ht
        have hm : t ∈ [38, 9, 4] := by simpa using Array.mem_of_getElem? ht
        have hall : ([38, 9, 4].all fun u => !Tryd.prog.wantsStandIn u) = true := by kernel_rfl
        exact (show Tryd.prog.wantsStandIn t = false by simpa using List.all_eq_true.1 hall t hm)⟩)
    (by kernel_rfl)

end Go.Proofs.YtkkmojbaoflafaaDoor
