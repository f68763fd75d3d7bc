/- The keys of a map are sorted: the most room first. No condition beyond those that each theorem states. -/
import Derived.Test.YtjeccacacecdfaaPL2
import Derived.Lib.OwnBridge
namespace Go.Proofs.Ytjeccacacecdfaa
open Go.RowKit Go.Shelf Go.Maps

/-- In which order they are chosen. -/
structure Ranked (E : List (Int × Int)) (S : List Int) : Prop where
  perm : S.Perm (E.map Prod.fst)
  sorted : S.Pairwise fun x y => ltE E x y = true
def intVs (l : List Int) : List Value := l.map (Value.int .i64)
theorem intVs_length (l : List Int) : (intVs l).length = l.length := by simp [intVs]
theorem mint_info : (Try.prog.info? 3).map (fun i => (i.zero, i.size, i.bytes)) = some (some (.int .i64 0), 1, 8) := by kernel_rfl


abbrev I64 := {x : Int // wfI x}
instance : Inhabited I64 := ⟨⟨0, rfl⟩⟩
def encI (x : I64) : Value := .int .i64 x.1
theorem ltE_irrefl (E : List (Int × Int)) (x : Int) : ltE E x x = false := by simp [ltE]
theorem ltE_trans (E : List (Int × Int)) {x y z : Int} (h1 : ltE E x y = true) (h2 : ltE E y z = true) : ltE E x z = true := by
  simp only [ltE, Bool.or_eq_true, decide_eq_true_eq, Bool.and_eq_true, beq_iff_eq] at *
  omega
theorem ltE_ntrans (E : List (Int × Int)) {x y z : Int} (h1 : ltE E x y = false) (h2 : ltE E y z = false) : ltE E x z = false := by
  simp only [ltE, Bool.or_eq_false_iff, decide_eq_false_iff_not, Bool.and_eq_false_iff, beq_eq_false_iff_ne] at *
  omega
theorem ltE_total (E : List (Int × Int)) {x y : Int} (h : x ≠ y) (h1 : ltE E y x = false) : ltE E x y = true := by
  simp only [ltE, Bool.or_eq_false_iff, decide_eq_false_iff_not, Bool.and_eq_false_iff, beq_eq_false_iff_ne, Bool.or_eq_true, decide_eq_true_eq, Bool.and_eq_true, beq_iff_eq] at *
  omega
def cfI (E : List (Int × Int)) (x y : I64) : Int := cfE E x.1 y.1
theorem ltI (E : List (Int × Int)) (x y : I64) : ltOf (cfI E) x y = ltE E x.1 y.1 := cfE_lt E x.1 y.1
theorem swoI (E : List (Int × Int)) : Sort.SWO (ltOf (cfI E)) where
  irrefl x := by rw [ltI]; exact ltE_irrefl E x.1
  trans x y z h1 h2 := by rw [ltI] at *; exact ltE_trans E h1 h2
  ntrans x y z h1 h2 := by rw [ltI] at *; exact ltE_ntrans E h1 h2

theorem sortWorld_grown (w : World) (g m : Nat) (d : Array I64) (os : Array Obj) : w.grownBy (sortWorld encI w g 0 m d os) (some g) := by
  refine ⟨rfl, rfl, rfl, by simp [sortWorld, Sort.grow, Sort.putRow, Sort.mapBlock, Sort.ahead], fun k hk hne => ?_⟩
  have hkg : g ≠ k := fun e => hne (by rw [e])
  simp only [sortWorld, Sort.grow, Sort.putRow, Sort.mapBlock, Sort.ahead]
  rw [Array.getElem?_append_left (by simpa using hk), Array.getElem?_modify, if_neg hkg]

set_option maxHeartbeats 1000000 in
theorem sortKeys (b mb g cap base : Nat) (E : List (Int × Int)) (ks : List Int) (w : World) (hm : MapAt w b E) (hc : w.cell? ⟨mb, 0, none⟩ = some (.map (some b))) (hmb : mb < w.heap.size) (hb : b ≠ g) (hmg : mb ≠ g)
    (ho : w.ownsRow base 3 1 (.slice (some ⟨g, 0, none⟩) ks.length cap) ks.length (intVs ks)) (hwf : ∀ x ∈ ks, wfI x) (hp : ks.Perm (E.map Prod.fst)) (hl : ks.length < 1000) :
    Calls Try.prog 14 #[.slice (some ⟨g, 0, none⟩) ks.length cap, .func (.func 15) #[] #[.pointer (some ⟨mb, 0, none⟩)]] w fun e w' => e = .returned (.tuple #[]) ∧ ∃ S, Ranked E S ∧ S.length = ks.length ∧ RowAt w' g 3 (intVs S) ∧ w.grownBy w' (some g) := by
  have eg : ∀ args w, (callFunc 15 args).run Try.prog w = .ok (.enter 15 args) w := enters_of Try.func15 (by kernel_rfl) rfl
  obtain ⟨zs, hzs⟩ : ∃ zs : List I64, zs.map (fun z => z.1) = ks := ⟨ks.pmap (fun x h => ⟨x, h⟩) hwf, by simp [List.map_pmap]⟩
  have hzl : zs.length = ks.length := by rw [← hzs, List.length_map]
  have hvs : intVs ks = zs.map encI := by rw [← hzs, intVs, List.map_map]; rfl
  have hcmp : CmpLays1 Try.prog 15 #[.pointer (some ⟨mb, 0, none⟩)] encI (cfI E) g 0 zs.toArray.size w := fun m os dk _ x y => by
    have hg := sortWorld_grown w g m dk os
    exact closure15 b mb E x.1 y.1 x.2 y.2 _ (hm.kept hg (fun e => hb (Option.some.inj e))) ((World.cell?_of_block (a := ⟨mb, 0, none⟩) (hg.block mb hmb (fun e => hmg (Option.some.inj e)))).trans hc)
  have ho2 := ho
  rw [hvs] at ho2
  obtain ⟨g', cap', hv, _, hgs, _, _, _, hH⟩ := Lib.holds_of_ownsRow ho2 (by simp)
  have hgg : g = g' := by
    injection hv with hv
    injection hv with hv
    injection hv
  subst hgg
  have hS := Any.slices_SortFunc sortL encI (fun _ => rfl) (cfI E) (swoI E) 15 #[.pointer (some ⟨mb, 0, none⟩)] g 0 cap zs.toArray w eg hcmp hH hgs (by simp; omega)
  have hsz : zs.toArray.size = ks.length := by simpa using hzl
  rw [hsz] at hS
  refine Calls.mono hS fun e w' ⟨he, d', n, os, hperm, hsort, hw⟩ => ?_
  have hds : d'.size = ks.length := hperm.1.trans hsz
  have hp1 : d'.toList.Perm zs := by
    have h := hperm.2.2
    have e1 : d'.extract 0 ks.length = d' := by rw [← hds]; simp
    have e2 : zs.toArray.extract 0 ks.length = zs.toArray := by rw [← hsz]; simp
    rw [e1, e2] at h
    exact h
  have hp2 : (d'.toList.map fun z => z.1).Perm ks := by rw [← hzs]; exact hp1.map _
  have hnd : (d'.toList.map fun z => z.1).Nodup := by
    have hE : (E.map Prod.fst).Nodup := by
      obtain ⟨D, _, hr⟩ := hm
      exact hr.apart
    exact ((hp2.trans hp).nodup_iff).2 hE
  refine ⟨he, d'.toList.map (fun z => z.1), ⟨hp2.trans hp, ?_⟩, by simpa using hds, ?_, by rw [hw]; exact sortWorld_grown w g n d' os⟩
  · rw [List.pairwise_iff_getElem]
    intro i j hi hj hij
    simp only [List.length_map, Array.length_toList] at hi hj
    have h1 := hsort i j (Nat.zero_le _) hij (by omega)
    rw [ltI, getElem!_pos d' j hj, getElem!_pos d' i hi] at h1
    simp only [List.getElem_map, Array.getElem_toList]
    refine ltE_total E (fun e => ?_) h1
    rw [List.nodup_iff_pairwise_ne, List.pairwise_iff_getElem] at hnd
    have := hnd i j (by simpa using hi) (by simpa using hj) hij
    simp only [List.getElem_map, Array.getElem_toList] at this
    exact this e
  · have h1 := Lib.ownsRow_putRow (q := n) (k := ks.length) (ys := d'.toList) ho2 (by simpa using hds) (Nat.le_refl _)
    rw [List.take_of_length_le (by simp; omega), show d'.toList.toArray = d' from by simp] at h1
    have h2 : RowAt (Sort.putRow encI (Sort.ahead w n) g 0 d') g 3 (d'.toList.map encI) := RowAt.of_own h1
    have e3 : intVs (d'.toList.map fun z => z.1) = d'.toList.map encI := by rw [intVs, List.map_map]; rfl
    rw [e3]
    refine h2.of_eq ?_
    rw [hw]
    unfold sortWorld Sort.grow
    rw [Array.getElem?_append_left h2.size]
end Go.Proofs.Ytjeccacacecdfaa
