/- A line as a step. No condition beyond those that each theorem states. -/
import Derived.Test.YtkkmojbaoflafaaDoorY6
import Derived.Test.YtkkmojbaoflafaaDoorY7
import Derived.Test.YtkkmojbaoflafaaDoorY8
namespace Go.Proofs.YtkkmojbaoflafaaDoor
open Go.RowKit Go.Shelf

theorem below_drew3 {B : Nat} {a w : World} (h : Below B a w) : Below B a w.drew := ⟨h.os, h.tape, h.output, h.size, h.block⟩
def set5 (w : World) (b : Nat) (x : StepV) (A : Option Addr) (c : Nat) : World := ((((w.setCell ⟨b, 0, none⟩ (.int .i64 x.kind)).setCell ⟨b, 1, none⟩ (.int .i64 x.a)).setCell ⟨b, 2, none⟩ (.int .i64 x.b)).setCell ⟨b, 3, none⟩ (strV x.key)).setCell ⟨b, 4, none⟩ (.slice A x.data.length c)
theorem set5_blk {w : World} {b : Nat} {y : StepV} {A' : Option Addr} {c' : Nat} (h : Blk w b 24 (stepCells y A' c')) (x : StepV) (A : Option Addr) (c : Nat) : Blk (set5 w b x A c) b 24 (stepCells x A c) :=
  ((((h.store 0 _).store 1 _).store 2 _).store 3 _).store 4 _
theorem set5_chg (w : World) (b : Nat) (x : StepV) (A : Option Addr) (c : Nat) : Chg (fun k => k = b) w (set5 w b x A c) :=
  (((((Chg.refl (fun k => k = b) w).store (p := ⟨b, 0, none⟩) (.inl rfl) _).store (p := ⟨b, 1, none⟩) (.inl rfl) _).store (p := ⟨b, 2, none⟩) (.inl rfl) _).store (p := ⟨b, 3, none⟩) (.inl rfl) _).store (p := ⟨b, 4, none⟩) (.inl rfl) _
theorem tSet (b : Nat) (x : StepV) (A : Option Addr) (c : Nat) (ch : UInt8) (s : Str) (w : World) (hch : ch = 107 ∨ ch = 100 ∨ ch = 97 ∨ ch = 98) (h : StepAt w b x A c) (hs : s.length ≤ 140737488355328) (he : Env w) :
    Calls Tryd.prog 27 #[.pointer (some ⟨b, 0, none⟩), .int .i32 (ch.toNat : Int), strV s] w fun e w' => Set_ A b w (setT x ch s) e w' := by
  rcases hch with rfl | rfl | rfl | rfl
  · exact tSet107 b x A c s w h hs
  · exact tSet100 b x A c s w h hs
  · exact tSet97 b x A c s w h hs he
  · exact tSet98 b x A c s w h hs he
theorem args_step {has : Str} {ss : List Str} {j : Nat} {ch : UInt8} {s : Str} (h1 : has[j]? = some ch) (h2 : ss[j]? = some s) (y : StepV) : argsT (has.drop j) (ss.drop j) y = (setT y ch s).bind (argsT (has.drop (j + 1)) (ss.drop (j + 1))) := by
  have a1 := (List.getElem?_eq_some_iff.1 h1)
  have a2 := (List.getElem?_eq_some_iff.1 h2)
  rw [List.drop_eq_getElem_cons a1.1, List.drop_eq_getElem_cons a2.1, a1.2, a2.2]
  rfl
theorem split_len {c : UInt8} : ∀ {s x : Str}, x ∈ splitT c s → x.length ≤ s.length
  | [], x, h => by
    simp [splitT] at h
    simp [h]
  | y :: r, x, h => by
    unfold splitT at h
    split at h
    · rcases List.mem_cons.1 h with rfl | h
      · simp
      · have := split_len h
        simp only [List.length_cons]
        omega
    · cases hs : splitT c r with
      | nil => exact absurd hs (splitT_ne c r)
      | cons p t =>
        rw [hs] at h
        rcases List.mem_cons.1 h with rfl | h
        · have := split_len (s := r) (x := p) (by rw [hs]; simp)
          simp only [List.length_cons]
          omega
        · have := split_len (s := r) (x := x) (by rw [hs]; simp [h])
          simp only [List.length_cons]
          omega
def zeroS : StepV := ⟨0, 0, 0, [], []⟩
def StepTold (w : World) (o : Option StepV) (e : Ending) (w' : World) : Prop := match o with
  | some x => ∃ A c, e = .returned (.tuple #[stepV x A c, .int .i64 0]) ∧ DataAt w' A c x.data ∧ ∀ g, A = some ⟨g, 0, none⟩ → w.heap.size ≤ g
  | none => e = .returned (.tuple #[stepV zeroS none 0, .int .i64 15])
theorem drop_form {i : Nat} {f : Str × Str} (h : formsT[i]? = some f) : formsT.drop i = f :: formsT.drop (i + 1) := by
  have hi := (List.getElem?_eq_some_iff.1 h).1
  rw [List.drop_eq_getElem_cons hi]
  rw [(List.getElem?_eq_some_iff.1 h).2]
section
set_option maxHeartbeats 16000000
set_option maxRecDepth 100000
theorem tStep (s : Str) (w : World) (he : Env w) (hs : s.length ≤ 1000000000) :
    Calls Tryd.prog 12 #[strV s] w fun e w' => StepTold w (stepT s) e w' ∧ Below w.heap.size w w' := by
  have HE := Lib.hid he
  clear he
  go_enter Tryd.func12, Tryd.ntmps12
  go_wp2_with fail
  refine (tSplit s _ hs).mono ?_
  rintro e w1 ⟨g, rfl, hg, hgl, hrow, hb1⟩
  have hmem := fun x hx => split_mem (c := 32) (s := s) (x := x) hx
  have hall : ∀ x ∈ splitT 32 s, x.length ≤ 1000000000 := fun x hx => Nat.le_trans (split_len hx) hs
  obtain ⟨wd, ss, hsp⟩ : ∃ wd ss, splitT 32 s = wd :: ss := by
    cases h : splitT 32 s with
    | nil => exact absurd h (splitT_ne _ _)
    | cons a b => exact ⟨a, b, rfl⟩
  rw [hsp] at hrow hall
  rw [hsp]
  have SP := Lib.hid hsp
  have R1 := Lib.hid hrow
  have AL := Lib.hid hall
  have B1 := Lib.hid (show Below w.heap.size w w1 from ((Below.refl _ w).alloc (Nat.le_refl _) _).trans (hb1.mono (by simp)))
  have Z1 := Lib.hid (show Blk w1 w.heap.size 24 (stepCells zeroS none 0) from (Blk.made w _ _).below hb1 (by simp))
  clear hsp hrow hall hmem hb1 hg
  obtain ⟨n, hn⟩ : ∃ n, (wd :: ss).length = n := ⟨_, rfl⟩
  rw [hn]
  have HN := Lib.hid hn
  have hnz : (0 : Int) < (n : Int) := by simp only [List.length_cons] at hn; omega
  have hnn : 0 < n := by omega
  clear hn
  go_wp2_with fail
  refine (tForms _).mono ?_
  rintro e w2 ⟨gf, rfl, hgf, hfm, hb2⟩
  have F2 := Lib.hid hfm
  have R2 := Lib.hid (R1.out.of_eq (hb2.block g hgl))
  have B2 := Lib.hid (show Below w.heap.size w w2 from B1.out.trans (hb2.mono B1.out.size))
  have Z2 := Lib.hid (Z1.out.below hb2 Z1.out.size)
  have E2 := Lib.hid (HE.out.below B2.out)
  have hg2 : g < w2.heap.size := Nat.lt_of_lt_of_le hgl hb2.size
  have hgf2 : gf < w2.heap.size := hfm.1
  have hw2 : w.heap.size < w2.heap.size := Z2.out.size
  clear hfm hb2 R1 B1 Z1 hgl hgf
  go_wp2_with fail
  go_loopw [14] (fun v wr => ∃ i : Nat, v = .int .i64 i ∧ i ≤ 19 ∧ stepT s = stepFrom i (formsT.drop i) (wd :: ss) ∧ Below w2.heap.size w2 wr) (fun v _ => 19 - (intOf v).toNat)
  case atStart => exact ⟨0, rfl, by omega, by unfold stepT; rw [SP.out]; rfl, Below.refl _ _⟩
  case round =>
    obtain ⟨i, rfl, hi, hst, hbl⟩ := hrel
    have SF := Lib.hid hst
    have BL := Lib.hid hbl
    have hz := hbl.size
    clear hst hbl
    by_cases hlt : i < 19
    · have d1 : decide ((i : Int) < 19) = true := by simp; omega
      have d2 : (0 : Int) ≤ (i : Int) ∧ (i : Int) < 19 := by omega
      have d3 : (i : Int) < 19 := by omega
      obtain ⟨f, hf⟩ := forms_get hlt
      have HF := Lib.hid hf
      have k0 : wr.cell? ⟨gf, i * 2, none⟩ = some (strV f.1) := (BL.out.cell (p := ⟨gf, i * 2, none⟩) hgf2).trans (F2.out.2 i f hf).1
      have k1 : wr.cell? ⟨gf, i * 2 + 1, none⟩ = some (strV f.2) := (BL.out.cell (p := ⟨gf, i * 2 + 1, none⟩) hgf2).trans (F2.out.2 i f hf).2
      have NS := Lib.hid (show stepFrom i (formsT.drop i) (wd :: ss) = if meets f (wd :: ss) then argsT f.2 ss ⟨(i : Int) + 1, 0, 0, [], []⟩ else stepFrom ((i : Int) + 1) (formsT.drop (i + 1)) (wd :: ss) by rw [drop_form hf]; rfl)
      have q0 : (wr.alloc (.cells #[strV f.1, strV f.2] 49)).drew.cell? ⟨g, 0, none⟩ = some (strV wd) := by
        have h1 := R2.out.of_eq (BL.out.block g hg2)
        have h2 := h1.of_eq (w' := wr.alloc (.cells #[strV f.1, strV f.2] 49)) (Below.heap_alloc wr _ g h1.size)
        exact h2.cell (i := 0) rfl
      have q1 : (wr.alloc (.cells #[strV f.1, strV f.2] 49)).drew.cell? ⟨wr.heap.size, 0, none⟩ = some (strV f.1) := (Blk.made wr 49 #[strV f.1, strV f.2]).cell 0
      have q2 : (wr.alloc (.cells #[strV f.1, strV f.2] 49)).drew.cell? ⟨wr.heap.size, 1, none⟩ = some (strV f.2) := (Blk.made wr 49 #[strV f.1, strV f.2]).cell 1
      have BM := Lib.hid (show Below w2.heap.size w2 (wr.alloc (.cells #[strV f.1, strV f.2] 49)).drew from below_drew3 (BL.out.alloc hz _))
      clear hf
      by_cases hw : wd = f.1
      · by_cases hm : n = 1 + f.2.length
        · have hq : ((n : Int) != 1 + (f.2.length : Int)) = false := by simp; omega
          have NF := Lib.hid (show stepFrom i (formsT.drop i) (wd :: ss) = argsT f.2 ss ⟨(i : Int) + 1, 0, 0, [], []⟩ by rw [NS.out, if_pos (by unfold meets; rw [HN.out]; simp [hm, hw])])
          have HM := Lib.hid hm
          have hl2 : f.2.length ≤ 2 := by
            have h1 := (forms_facts f (List.mem_of_getElem? HF.out)).2.2
            have h2 : ∀ h ∈ kinds, h.length ≤ 2 := by decide
            exact h2 _ h1
          have hwl : IntKind.i64.wrap (1 + (f.2.length : Int)) = 1 + (f.2.length : Int) := IntWalk.i64_in _ (by omega)
          clear hm
          go_upto_region 5 with fail
          refine wp_region_held_drew (S := (fun w' => w'.cell? ⟨g, 0, none⟩ = some (strV wd) ∧ w'.cell? ⟨wr.heap.size, 0, none⟩ = some (strV f.1) ∧ w'.cell? ⟨wr.heap.size, 1, none⟩ = some (strV f.2))) (by kernel_rfl) ⟨q0, q1, q2⟩ (fun hHeld => ?_)
          refine wpAnyH_take (i := 0) (v := ?vScn10) (take_list rfl) (by kernel_rfl) (by kernel_rfl) (by kernel_rfl) (fun _ _ _ h => h) (Or.inl ⟨by rfl, ?hyScn10⟩) (by assumption) ?restScn10
          case hyScn10 => (intro w hSw; (try dsimp only at hSw); go_simp <;> with_reducible rfl)
          try simp only [Act.put, List.setIfInBounds_toArray, List.set_cons_zero, List.set_cons_succ]
          refine wpAnyH_take (i := 1) (v := ?vScn11) (take_list rfl) (by kernel_rfl) (by kernel_rfl) (by kernel_rfl) (fun _ _ _ h => h) (Or.inl ⟨by rfl, ?hyScn11⟩) (by assumption) ?restScn11
          case hyScn11 => (intro w hSw; (try dsimp only at hSw); go_simp <;> with_reducible rfl)
          try simp only [Act.put, List.setIfInBounds_toArray, List.set_cons_zero, List.set_cons_succ]
          refine wpAnyH_take (i := 2) (v := ?vScn12) (take_list rfl) (by kernel_rfl) (by kernel_rfl) (by kernel_rfl) (fun _ _ _ h => h) (Or.inl ⟨by rfl, ?hyScn12⟩) (by assumption) ?restScn12
          case hyScn12 => (intro w hSw; (try dsimp only at hSw); go_simp <;> with_reducible rfl)
          try simp only [Act.put, List.setIfInBounds_toArray, List.set_cons_zero, List.set_cons_succ]
          refine wpAnyH_take (i := 3) (v := ?vScn13) (take_list rfl) (by kernel_rfl) (by kernel_rfl) (by kernel_rfl) (fun _ _ _ h => h) (Or.inl ⟨by rfl, ?hyScn13⟩) (by assumption) ?restScn13
          case hyScn13 => (intro w hSw; (try dsimp only at hSw); go_simp <;> with_reducible rfl)
          try simp only [Act.put, List.setIfInBounds_toArray, List.set_cons_zero, List.set_cons_succ]
          refine wpAnyH_take (i := 4) (v := ?vScn14) (take_list rfl) (by kernel_rfl) (by kernel_rfl) (by kernel_rfl) (fun _ _ _ h => h) (Or.inl ⟨by rfl, ?hyScn14⟩) (by assumption) ?restScn14
          case hyScn14 => (intro w hSw; (try dsimp only at hSw); go_simp <;> with_reducible rfl)
          try simp only [Act.put, List.setIfInBounds_toArray, List.set_cons_zero, List.set_cons_succ]
          refine wpAnyH_take (i := 5) (v := ?vScn15) (take_list rfl) (by kernel_rfl) (by kernel_rfl) (by kernel_rfl) (fun _ _ _ h => h) (Or.inl ⟨by rfl, ?hyScn15⟩) (by assumption) ?restScn15
          case hyScn15 => (intro w hSw; (try dsimp only at hSw); go_simp <;> with_reducible rfl)
          try simp only [Act.put, List.setIfInBounds_toArray, List.set_cons_zero, List.set_cons_succ]
          refine wpAnyH_take (i := 6) (v := ?vScn16) (take_list rfl) (by kernel_rfl) (by kernel_rfl) (by kernel_rfl) (fun _ _ _ h => h) (Or.inl ⟨by rfl, ?hyScn16⟩) (by assumption) ?restScn16
          case hyScn16 => (intro w hSw; (try dsimp only at hSw); go_simp <;> with_reducible rfl)
          try simp only [Act.put, List.setIfInBounds_toArray, List.set_cons_zero, List.set_cons_succ]
          refine wpAnyH_take (i := 7) (v := ?vScn17) (take_list rfl) (by kernel_rfl) (by kernel_rfl) (by kernel_rfl) (fun _ _ _ h => h) (Or.inl ⟨by rfl, ?hyScn17⟩) (by assumption) ?restScn17
          case hyScn17 => (intro w hSw; (try dsimp only at hSw); go_simp <;> with_reducible rfl)
          try simp only [Act.put, List.setIfInBounds_toArray, List.set_cons_zero, List.set_cons_succ]
          refine wpAnyH_take (i := 8) (v := ?vScn18) (take_list rfl) (by kernel_rfl) (by kernel_rfl) (by kernel_rfl) (fun _ _ _ h => h) (Or.inl ⟨by rfl, ?hyScn18⟩) (by assumption) ?restScn18
          case hyScn18 => (intro w hSw; (try dsimp only at hSw); go_simp <;> with_reducible rfl)
          try simp only [Act.put, List.setIfInBounds_toArray, List.set_cons_zero, List.set_cons_succ]
          refine wpAnyH_take (i := 9) (v := ?vScn19) (take_list rfl) (by kernel_rfl) (by kernel_rfl) (by kernel_rfl) (fun _ _ _ h => h) (Or.inl ⟨by rfl, ?hyScn19⟩) (by assumption) ?restScn19
          case hyScn19 => (intro w hSw; (try dsimp only at hSw); go_simp <;> with_reducible rfl)
          try simp only [Act.put, List.setIfInBounds_toArray, List.set_cons_zero, List.set_cons_succ]
          refine wpAnyH_take (i := 10) (v := ?vScn110) (take_list rfl) (by kernel_rfl) (by kernel_rfl) (by kernel_rfl) (fun _ _ _ h => h) (Or.inl ⟨by rfl, ?hyScn110⟩) (by assumption) ?restScn110
          case hyScn110 => (intro w hSw; (try dsimp only at hSw); go_simp <;> with_reducible rfl)
          try simp only [Act.put, List.setIfInBounds_toArray, List.set_cons_zero, List.set_cons_succ]
          refine wpAnyH_take (i := 11) (v := ?vScn111) (take_list rfl) (by kernel_rfl) (by kernel_rfl) (by kernel_rfl) (fun _ _ _ h => h) (Or.inl ⟨by rfl, ?hyScn111⟩) (by assumption) ?restScn111
          case hyScn111 => (intro w hSw; (try dsimp only at hSw); go_simp <;> with_reducible rfl)
          try simp only [Act.put, List.setIfInBounds_toArray, List.set_cons_zero, List.set_cons_succ]
          refine wpAnyH_take (i := 12) (v := ?vScn112) (take_list rfl) (by kernel_rfl) (by kernel_rfl) (by kernel_rfl) (fun _ _ _ h => h) (Or.inl ⟨by rfl, ?hyScn112⟩) (by assumption) ?restScn112
          case hyScn112 => (intro w hSw; (try dsimp only at hSw); go_simp <;> with_reducible rfl)
          try simp only [Act.put, List.setIfInBounds_toArray, List.set_cons_zero, List.set_cons_succ]
          refine wpAnyH_take (i := 13) (v := ?vScn113) (take_list rfl) (by kernel_rfl) (by kernel_rfl) (by kernel_rfl) (fun _ _ _ h => h) (Or.inl ⟨by rfl, ?hyScn113⟩) (by assumption) ?restScn113
          case hyScn113 => (intro w hSw; (try dsimp only at hSw); go_simp <;> with_reducible rfl)
          try simp only [Act.put, List.setIfInBounds_toArray, List.set_cons_zero, List.set_cons_succ]
          refine wpAnyH_take (i := 14) (v := ?vScn114) (take_list rfl) (by kernel_rfl) (by kernel_rfl) (by kernel_rfl) (fun _ _ _ h => h) (Or.inl ⟨by rfl, ?hyScn114⟩) (by assumption) ?restScn114
          case hyScn114 => (intro w hSw; (try dsimp only at hSw); go_simp <;> with_reducible rfl)
          try simp only [Act.put, List.setIfInBounds_toArray, List.set_cons_zero, List.set_cons_succ]
          refine wpAnyH_done (by kernel_rfl) ?_ _
          go_wp2_with fail
          have X0 := Lib.hid (show StepAt (((wr.alloc (.cells #[strV f.1, strV f.2] 49)).alloc (.cells (stepCells ⟨1 + (i : Int), 0, 0, [], []⟩ none 0) 24)).drew.iter ⟨f.2.toArray⟩ 0) (wr.heap.size + 1) ⟨1 + (i : Int), 0, 0, [], []⟩ none 0 from ⟨(by have h := (Blk.made (wr.alloc (.cells #[strV f.1, strV f.2] 49)) 24 (stepCells ⟨1 + (i : Int), 0, 0, [], []⟩ none 0)).alloc (.stringIter ⟨f.2.toArray⟩ 0); rw [World.size_alloc] at h; exact h), .inl ⟨rfl, rfl, rfl⟩⟩)
          have I0 := Lib.hid (show (((wr.alloc (.cells #[strV f.1, strV f.2] 49)).alloc (.cells (stepCells ⟨1 + (i : Int), 0, 0, [], []⟩ none 0) 24)).drew.iter ⟨f.2.toArray⟩ 0).heap[wr.heap.size + 1 + 1]? = some (.stringIter ⟨f.2.toArray⟩ 0) by have h := World.iter_heap ((wr.alloc (.cells #[strV f.1, strV f.2] 49)).alloc (.cells (stepCells ⟨1 + (i : Int), 0, 0, [], []⟩ none 0) 24)).drew ⟨f.2.toArray⟩ 0; rw [show ((wr.alloc (.cells #[strV f.1, strV f.2] 49)).alloc (.cells (stepCells ⟨1 + (i : Int), 0, 0, [], []⟩ none 0) 24)).drew.heap.size = wr.heap.size + 1 + 1 by show ((wr.alloc _).alloc _).heap.size = _; rw [World.size_alloc, World.size_alloc]] at h; exact h)
          have BI := Lib.hid (show Below w2.heap.size w2 (((wr.alloc (.cells #[strV f.1, strV f.2] 49)).alloc (.cells (stepCells ⟨1 + (i : Int), 0, 0, [], []⟩ none 0) 24)).drew.iter ⟨f.2.toArray⟩ 0) from (below_drew3 ((BL.out.alloc hz _).alloc (by rw [World.size_alloc]; omega) _)).alloc (by show w2.heap.size ≤ ((wr.alloc _).alloc _).heap.size; rw [World.size_alloc, World.size_alloc]; omega) _)
          obtain ⟨wo, rfl⟩ : ∃ x : World, x = wr := ⟨_, rfl⟩
          go_loopw [] (fun wx => ∃ (j : Nat) (y : StepV) (A : Option Addr) (c : Nat), j ≤ f.2.length ∧ wx.heap[wo.heap.size + 1 + 1]? = some (.stringIter ⟨f.2.toArray⟩ j) ∧ StepAt wx (wo.heap.size + 1) y A c ∧ (∀ g, A = some ⟨g, 0, none⟩ → w2.heap.size ≤ g) ∧ argsT (f.2.drop j) (ss.drop j) y = argsT f.2 ss ⟨(i : Int) + 1, 0, 0, [], []⟩ ∧ Below w2.heap.size w2 wx) (fun wx => f.2.length - wx.iterPos (wo.heap.size + 1 + 1))
          case atStart => exact ⟨0, _, _, _, Nat.zero_le _, I0.out, X0.out, (fun g h => by cases h), by rw [Int.add_comm]; rfl, BI.out⟩
          case round =>
            obtain ⟨j, y, A, c, hj, hit, hx, hfar, har, hbl⟩ := hrel
            clear X0 I0 BI q0 q1 q2 k0 k1 BM
            have IT := Lib.hid hit
            have XA := Lib.hid hx
            have FX := Lib.hid hfar
            clear hfar
            have AR := Lib.hid har
            have BX := Lib.hid hbl
            have hxz : wo.heap.size + 1 < wr.heap.size := hx.1.size
            clear hx har hbl
            by_cases hlj : j < f.2.length
            · obtain ⟨ch, hch⟩ : ∃ ch, f.2[j]? = some ch := ⟨_, List.getElem?_eq_getElem hlj⟩
              obtain ⟨sj, hsj⟩ : ∃ sj, ss[j]? = some sj := ⟨_, List.getElem?_eq_getElem (by have h1 := HN.out; have h2 := HM.out; simp only [List.length_cons] at h1; omega)⟩
              have hcl := kinds_mem f.2 (forms_facts f (List.mem_of_getElem? HF.out)).2.2 ch (List.mem_of_getElem? hch)
              have hlen : sj.length ≤ 140737488355328 := by have := AL.out sj (List.mem_cons_of_mem _ (List.mem_of_getElem? hsj)); omega
              obtain ⟨wn, hwn⟩ : ∃ wn, wr.iterAt (wo.heap.size + 1 + 1) ⟨f.2.toArray⟩ (j + 1) = wn := ⟨_, rfl⟩
              have hnx : ∀ ty, (Instr.next (.pointer (some ⟨wo.heap.size + 1 + 1, 0, none⟩)) true ty).run Tryd.prog wr = .ok (.tuple #[.bool true, .int .i64 j, .int .i32 (ch.toNat : Int)]) wn := fun ty => by
                rw [next_at IT.out hch (by rcases hcl with rfl | rfl | rfl | rfl <;> decide) ty, hwn]
              have IN := Lib.hid (show wn.heap[wo.heap.size + 1 + 1]? = some (.stringIter ⟨f.2.toArray⟩ (j + 1)) by rw [← hwn]; exact Lib.iterAt_heap wr _ _ j (j + 1) IT.out)
              have XN := Lib.hid (show StepAt wn (wo.heap.size + 1) y A c by rw [← hwn]; exact ⟨XA.out.1.of_eq (Lib.iterAt_other wr _ _ _ _ (by omega)), XA.out.2.imp id fun ⟨q, h1, h2, h3, h4⟩ => ⟨q, h1, h2, h3, h4.of_eq (Lib.iterAt_other wr _ _ _ _ (fun e => by obtain ⟨cs, h5, _⟩ := h4; rw [e, IT.out] at h5; cases h5))⟩⟩)
              have BN := Lib.hid (show Below w2.heap.size w2 wn by rw [← hwn]; exact Lib.below_iterAt BX.out (by omega) _ _)
              have AS := Lib.hid (args_step hch hsj y)
              have hwr : IntKind.i64.wrap (1 + (j : Int)) = ((1 + j : Nat) : Int) := by rw [IntWalk.i64_in _ (by omega)]; omega
              have g1 : (0 : Int) ≤ ((1 + j : Nat) : Int) := by omega
              have g2 : ((1 + j : Nat) : Int) < (n : Int) := by have := HM.out; omega
              have g3 : 1 + j < n := by omega
              have kj : wn.cell? ⟨g, 1 + j, none⟩ = some (strV sj) := (R2.out.of_eq (BN.out.block g hg2)).cell (by rw [Nat.add_comm]; simpa using hsj)
              clear hch hsj hwn hit
              go_wp2_with fail
              refine (tSet (wo.heap.size + 1) y A c ch sj wn hcl XN.out hlen (E2.out.below BN.out)).mono ?_
              rintro e w5 ⟨hcg, hmt⟩
              have CG := Lib.hid hcg
              have I5 := Lib.hid ((hcg.block _ (Array.getElem?_eq_some_iff.1 IN.out).1 (by show ¬ (wo.heap.size + 1 + 1 = wo.heap.size + 1); omega)).trans IN.out)
              have B5 := Lib.hid (show Below w2.heap.size w2 w5 from BN.out.trans (hcg.below BN.out.size (fun k hk => by omega)))
              clear hcg
              cases ho : setT y ch sj with
              | some y2 =>
                rw [ho] at hmt
                obtain ⟨rfl, A2, c2, hx2, hA2⟩ := hmt
                have X5 := Lib.hid hx2
                have FA := Lib.hid (show ∀ g, A2 = some ⟨g, 0, none⟩ → w2.heap.size ≤ g from fun g hg => by rcases hA2 with e | ⟨q, e, h⟩; exact FX.out g (e.symm.trans hg); rw [e] at hg; cases hg; exact Nat.le_trans BN.out.size h)
                clear hA2
                have HO := Lib.hid ho
                clear hx2 ho
                go_wp2_with fail
                go_roundw
                case rel => exact ⟨j + 1, y2, A2, c2, hlj, I5.out, X5.out, FA.out, by rw [← AR.out, AS.out, HO.out]; rfl, B5.out⟩
                case measure => simp only [World.iterPos, I5.out, IT.out]; omega
              | none =>
                rw [ho] at hmt
                obtain ⟨rfl, cs5, _⟩ := hmt
                have RES := Lib.hid (show stepT s = none by rw [SF.out, NF.out, ← AR.out, AS.out, ho]; rfl)
                clear ho
                have Z5 := Lib.hid (Z2.out.below B5.out hw2)
                have BW5 := Lib.hid (show Below w.heap.size w w5 from B2.out.trans (B5.out.mono B2.out.size))
                have hz5 : w.heap.size < w5.heap.size := Z5.out.size
                have k0 : w5.cell? ⟨w.heap.size, 0, none⟩ = some (.int .i64 0) := Z5.out.cell 0
                have k1 : w5.cell? ⟨w.heap.size, 1, none⟩ = some (.int .i64 0) := Z5.out.cell 1
                have k2 : w5.cell? ⟨w.heap.size, 2, none⟩ = some (.int .i64 0) := Z5.out.cell 2
                have k3 : w5.cell? ⟨w.heap.size, 3, none⟩ = some (strV []) := Z5.out.cell 3
                have k4 : w5.cell? ⟨w.heap.size, 4, none⟩ = some (.slice none 0 0) := Z5.out.cell 4
                have f0 : w5.frozen? ⟨w.heap.size, 0, none⟩ = false := Z5.out.free 0
                have f1 : w5.frozen? ⟨w.heap.size, 1, none⟩ = false := Z5.out.free 1
                have f2 : w5.frozen? ⟨w.heap.size, 2, none⟩ = false := Z5.out.free 2
                have f3 : w5.frozen? ⟨w.heap.size, 3, none⟩ = false := Z5.out.free 3
                have f4 : w5.frozen? ⟨w.heap.size, 4, none⟩ = false := Z5.out.free 4
                go_wp2_with fail
                have HB := Lib.hid (set5_blk Z5.out (zeroS) (none) (0))
                have HC := Lib.hid (set5_chg w5 w.heap.size (zeroS) (none) (0))
                change bodyPost _ _ _ _ _ (set5 w5 w.heap.size (zeroS) (none) (0))
                generalize set5 w5 w.heap.size (zeroS) (none) (0) = w6 at *
                have q0 : w6.cell? ⟨w.heap.size, 0, none⟩ = some (.int .i64 (zeroS).kind) := HB.out.cell 0
                have q1 : w6.cell? ⟨w.heap.size, 1, none⟩ = some (.int .i64 (zeroS).a) := HB.out.cell 1
                have q2 : w6.cell? ⟨w.heap.size, 2, none⟩ = some (.int .i64 (zeroS).b) := HB.out.cell 2
                have q3 : w6.cell? ⟨w.heap.size, 3, none⟩ = some (strV (zeroS).key) := HB.out.cell 3
                have q4 : w6.cell? ⟨w.heap.size, 4, none⟩ = some (.slice (none) (zeroS).data.length (0)) := HB.out.cell 4
                refine bodyPost_ret (v := .tuple #[stepV zeroS none 0, .int .i64 15]) ?_ rfl ⟨?_, (BW5.out.trans (HC.out.below (by have := BW5.out.size; omega) (fun k hk => by omega)))⟩
                · rw [results_cell_tmp rfl]
                  go_simp
                  rfl
                · rw [RES.out]
                  rfl
            · obtain rfl : j = f.2.length := by omega
              have hnx : ∀ ty, (Instr.next (.pointer (some ⟨wo.heap.size + 1 + 1, 0, none⟩)) true ty).run Tryd.prog wr = .ok (.tuple #[.bool false]) wr := fun ty => next_end IT.out (Nat.le_refl _) ty
              have RES := Lib.hid (show stepT s = some y by rw [SF.out, NF.out, ← AR.out, List.drop_of_length_le (Nat.le_refl _)]; rfl)
              obtain ⟨w5, rfl⟩ : ∃ x : World, x = wr := ⟨_, rfl⟩
              have B5 := Lib.hid BX.out
              have Z5 := Lib.hid (Z2.out.below B5.out hw2)
              have BW5 := Lib.hid (show Below w.heap.size w w5 from B2.out.trans (B5.out.mono B2.out.size))
              have hz5 : w.heap.size < w5.heap.size := Z5.out.size
              have k0 : w5.cell? ⟨w.heap.size, 0, none⟩ = some (.int .i64 0) := Z5.out.cell 0
              have k1 : w5.cell? ⟨w.heap.size, 1, none⟩ = some (.int .i64 0) := Z5.out.cell 1
              have k2 : w5.cell? ⟨w.heap.size, 2, none⟩ = some (.int .i64 0) := Z5.out.cell 2
              have k3 : w5.cell? ⟨w.heap.size, 3, none⟩ = some (strV []) := Z5.out.cell 3
              have k4 : w5.cell? ⟨w.heap.size, 4, none⟩ = some (.slice none 0 0) := Z5.out.cell 4
              have f0 : w5.frozen? ⟨w.heap.size, 0, none⟩ = false := Z5.out.free 0
              have f1 : w5.frozen? ⟨w.heap.size, 1, none⟩ = false := Z5.out.free 1
              have f2 : w5.frozen? ⟨w.heap.size, 2, none⟩ = false := Z5.out.free 2
              have f3 : w5.frozen? ⟨w.heap.size, 3, none⟩ = false := Z5.out.free 3
              have f4 : w5.frozen? ⟨w.heap.size, 4, none⟩ = false := Z5.out.free 4
              have y0 : w5.cell? ⟨wo.heap.size + 1, 0, none⟩ = some (.int .i64 y.kind) := XA.out.1.cell 0
              have y1 : w5.cell? ⟨wo.heap.size + 1, 1, none⟩ = some (.int .i64 y.a) := XA.out.1.cell 1
              have y2 : w5.cell? ⟨wo.heap.size + 1, 2, none⟩ = some (.int .i64 y.b) := XA.out.1.cell 2
              have y3 : w5.cell? ⟨wo.heap.size + 1, 3, none⟩ = some (strV y.key) := XA.out.1.cell 3
              have y4 : w5.cell? ⟨wo.heap.size + 1, 4, none⟩ = some (.slice A y.data.length c) := XA.out.1.cell 4
              go_wp2_with fail
              have HB := Lib.hid (set5_blk Z5.out (y) (A) (c))
              have HC := Lib.hid (set5_chg w5 w.heap.size (y) (A) (c))
              change bodyPost _ _ _ _ _ (set5 w5 w.heap.size (y) (A) (c))
              generalize set5 w5 w.heap.size (y) (A) (c) = w6 at *
              have q0 : w6.cell? ⟨w.heap.size, 0, none⟩ = some (.int .i64 (y).kind) := HB.out.cell 0
              have q1 : w6.cell? ⟨w.heap.size, 1, none⟩ = some (.int .i64 (y).a) := HB.out.cell 1
              have q2 : w6.cell? ⟨w.heap.size, 2, none⟩ = some (.int .i64 (y).b) := HB.out.cell 2
              have q3 : w6.cell? ⟨w.heap.size, 3, none⟩ = some (strV (y).key) := HB.out.cell 3
              have q4 : w6.cell? ⟨w.heap.size, 4, none⟩ = some (.slice (A) (y).data.length (c)) := HB.out.cell 4
              refine bodyPost_ret (v := .tuple #[stepV y A c, .int .i64 0]) ?_ rfl ⟨?_, (BW5.out.trans (HC.out.below (by have := BW5.out.size; omega) (fun k hk => by omega)))⟩
              · rw [results_cell_tmp rfl]
                go_simp
                rfl
              · rw [RES.out]
                exact ⟨A, c, rfl, XA.out.2.turn Z5.out HC.out, fun g hg => Nat.le_trans B2.out.size (FX.out g hg)⟩
        · have hq : ((n : Int) != 1 + (f.2.length : Int)) = true := by simp; omega
          have NF := Lib.hid (show stepFrom i (formsT.drop i) (wd :: ss) = stepFrom ((i + 1 : Nat) : Int) (formsT.drop (i + 1)) (wd :: ss) by rw [NS.out, if_neg (by unfold meets; rw [HN.out]; simp [hm])]; rfl)
          have hl2 : f.2.length ≤ 2 := by
            have h1 := (forms_facts f (List.mem_of_getElem? HF.out)).2.2
            have h2 : ∀ h ∈ kinds, h.length ≤ 2 := by decide
            exact h2 _ h1
          have hwl : IntKind.i64.wrap (1 + (f.2.length : Int)) = 1 + (f.2.length : Int) := IntWalk.i64_in _ (by omega)
          clear hm
          go_upto_region 5 with fail
          refine wp_region_held_drew (S := (fun w' => w'.cell? ⟨g, 0, none⟩ = some (strV wd) ∧ w'.cell? ⟨wr.heap.size, 0, none⟩ = some (strV f.1) ∧ w'.cell? ⟨wr.heap.size, 1, none⟩ = some (strV f.2))) (by kernel_rfl) ⟨q0, q1, q2⟩ (fun hHeld => ?_)
          refine wpAnyH_take (i := 0) (v := ?vSbn20) (take_list rfl) (by kernel_rfl) (by kernel_rfl) (by kernel_rfl) (fun _ _ _ h => h) (Or.inl ⟨by rfl, ?hySbn20⟩) (by assumption) ?restSbn20
          case hySbn20 => (intro w hSw; (try dsimp only at hSw); go_simp <;> with_reducible rfl)
          try simp only [Act.put, List.setIfInBounds_toArray, List.set_cons_zero, List.set_cons_succ]
          refine wpAnyH_take (i := 1) (v := ?vSbn21) (take_list rfl) (by kernel_rfl) (by kernel_rfl) (by kernel_rfl) (fun _ _ _ h => h) (Or.inl ⟨by rfl, ?hySbn21⟩) (by assumption) ?restSbn21
          case hySbn21 => (intro w hSw; (try dsimp only at hSw); go_simp <;> with_reducible rfl)
          try simp only [Act.put, List.setIfInBounds_toArray, List.set_cons_zero, List.set_cons_succ]
          refine wpAnyH_take (i := 2) (v := ?vSbn22) (take_list rfl) (by kernel_rfl) (by kernel_rfl) (by kernel_rfl) (fun _ _ _ h => h) (Or.inl ⟨by rfl, ?hySbn22⟩) (by assumption) ?restSbn22
          case hySbn22 => (intro w hSw; (try dsimp only at hSw); go_simp <;> with_reducible rfl)
          try simp only [Act.put, List.setIfInBounds_toArray, List.set_cons_zero, List.set_cons_succ]
          refine wpAnyH_take (i := 3) (v := ?vSbn23) (take_list rfl) (by kernel_rfl) (by kernel_rfl) (by kernel_rfl) (fun _ _ _ h => h) (Or.inl ⟨by rfl, ?hySbn23⟩) (by assumption) ?restSbn23
          case hySbn23 => (intro w hSw; (try dsimp only at hSw); go_simp <;> with_reducible rfl)
          try simp only [Act.put, List.setIfInBounds_toArray, List.set_cons_zero, List.set_cons_succ]
          refine wpAnyH_take (i := 4) (v := ?vSbn24) (take_list rfl) (by kernel_rfl) (by kernel_rfl) (by kernel_rfl) (fun _ _ _ h => h) (Or.inl ⟨by rfl, ?hySbn24⟩) (by assumption) ?restSbn24
          case hySbn24 => (intro w hSw; (try dsimp only at hSw); go_simp <;> with_reducible rfl)
          try simp only [Act.put, List.setIfInBounds_toArray, List.set_cons_zero, List.set_cons_succ]
          refine wpAnyH_take (i := 5) (v := ?vSbn25) (take_list rfl) (by kernel_rfl) (by kernel_rfl) (by kernel_rfl) (fun _ _ _ h => h) (Or.inl ⟨by rfl, ?hySbn25⟩) (by assumption) ?restSbn25
          case hySbn25 => (intro w hSw; (try dsimp only at hSw); go_simp <;> with_reducible rfl)
          try simp only [Act.put, List.setIfInBounds_toArray, List.set_cons_zero, List.set_cons_succ]
          refine wpAnyH_take (i := 6) (v := ?vSbn26) (take_list rfl) (by kernel_rfl) (by kernel_rfl) (by kernel_rfl) (fun _ _ _ h => h) (Or.inl ⟨by rfl, ?hySbn26⟩) (by assumption) ?restSbn26
          case hySbn26 => (intro w hSw; (try dsimp only at hSw); go_simp <;> with_reducible rfl)
          try simp only [Act.put, List.setIfInBounds_toArray, List.set_cons_zero, List.set_cons_succ]
          refine wpAnyH_take (i := 7) (v := ?vSbn27) (take_list rfl) (by kernel_rfl) (by kernel_rfl) (by kernel_rfl) (fun _ _ _ h => h) (Or.inl ⟨by rfl, ?hySbn27⟩) (by assumption) ?restSbn27
          case hySbn27 => (intro w hSw; (try dsimp only at hSw); go_simp <;> with_reducible rfl)
          try simp only [Act.put, List.setIfInBounds_toArray, List.set_cons_zero, List.set_cons_succ]
          refine wpAnyH_take (i := 8) (v := ?vSbn28) (take_list rfl) (by kernel_rfl) (by kernel_rfl) (by kernel_rfl) (fun _ _ _ h => h) (Or.inl ⟨by rfl, ?hySbn28⟩) (by assumption) ?restSbn28
          case hySbn28 => (intro w hSw; (try dsimp only at hSw); go_simp <;> with_reducible rfl)
          try simp only [Act.put, List.setIfInBounds_toArray, List.set_cons_zero, List.set_cons_succ]
          refine wpAnyH_take (i := 9) (v := ?vSbn29) (take_list rfl) (by kernel_rfl) (by kernel_rfl) (by kernel_rfl) (fun _ _ _ h => h) (Or.inl ⟨by rfl, ?hySbn29⟩) (by assumption) ?restSbn29
          case hySbn29 => (intro w hSw; (try dsimp only at hSw); go_simp <;> with_reducible rfl)
          try simp only [Act.put, List.setIfInBounds_toArray, List.set_cons_zero, List.set_cons_succ]
          refine wpAnyH_take (i := 10) (v := ?vSbn210) (take_list rfl) (by kernel_rfl) (by kernel_rfl) (by kernel_rfl) (fun _ _ _ h => h) (Or.inl ⟨by rfl, ?hySbn210⟩) (by assumption) ?restSbn210
          case hySbn210 => (intro w hSw; (try dsimp only at hSw); go_simp <;> with_reducible rfl)
          try simp only [Act.put, List.setIfInBounds_toArray, List.set_cons_zero, List.set_cons_succ]
          refine wpAnyH_take (i := 11) (v := ?vSbn211) (take_list rfl) (by kernel_rfl) (by kernel_rfl) (by kernel_rfl) (fun _ _ _ h => h) (Or.inl ⟨by rfl, ?hySbn211⟩) (by assumption) ?restSbn211
          case hySbn211 => (intro w hSw; (try dsimp only at hSw); go_simp <;> with_reducible rfl)
          try simp only [Act.put, List.setIfInBounds_toArray, List.set_cons_zero, List.set_cons_succ]
          refine wpAnyH_take (i := 12) (v := ?vSbn212) (take_list rfl) (by kernel_rfl) (by kernel_rfl) (by kernel_rfl) (fun _ _ _ h => h) (Or.inl ⟨by rfl, ?hySbn212⟩) (by assumption) ?restSbn212
          case hySbn212 => (intro w hSw; (try dsimp only at hSw); go_simp <;> with_reducible rfl)
          try simp only [Act.put, List.setIfInBounds_toArray, List.set_cons_zero, List.set_cons_succ]
          refine wpAnyH_take (i := 13) (v := ?vSbn213) (take_list rfl) (by kernel_rfl) (by kernel_rfl) (by kernel_rfl) (fun _ _ _ h => h) (Or.inl ⟨by rfl, ?hySbn213⟩) (by assumption) ?restSbn213
          case hySbn213 => (intro w hSw; (try dsimp only at hSw); go_simp <;> with_reducible rfl)
          try simp only [Act.put, List.setIfInBounds_toArray, List.set_cons_zero, List.set_cons_succ]
          refine wpAnyH_take (i := 14) (v := ?vSbn214) (take_list rfl) (by kernel_rfl) (by kernel_rfl) (by kernel_rfl) (fun _ _ _ h => h) (Or.inl ⟨by rfl, ?hySbn214⟩) (by assumption) ?restSbn214
          case hySbn214 => (intro w hSw; (try dsimp only at hSw); go_simp <;> with_reducible rfl)
          try simp only [Act.put, List.setIfInBounds_toArray, List.set_cons_zero, List.set_cons_succ]
          refine wpAnyH_done (by kernel_rfl) ?_ _
          go_wp2_with fail
          go_roundw
          case rel => exact ⟨i + 1, by go_num, by omega, by rw [SF.out]; exact NF.out, BM.out⟩
          case measure => simp [intOf]; omega
      · have NF := Lib.hid (show stepFrom i (formsT.drop i) (wd :: ss) = stepFrom ((i + 1 : Nat) : Int) (formsT.drop (i + 1)) (wd :: ss) by rw [NS.out, if_neg (by unfold meets; simp [hw])]; rfl)
        have hwb : (wd == f.1) = false := by simpa using hw
        go_upto_region 5 with fail
        refine wp_region_held_drew (S := (fun w' => w'.cell? ⟨g, 0, none⟩ = some (strV wd) ∧ w'.cell? ⟨wr.heap.size, 0, none⟩ = some (strV f.1) ∧ w'.cell? ⟨wr.heap.size, 1, none⟩ = some (strV f.2))) (by kernel_rfl) ⟨q0, q1, q2⟩ (fun hHeld => ?_)
        refine wpAnyH_take (i := 0) (v := ?vSan30) (take_list rfl) (by kernel_rfl) (by kernel_rfl) (by kernel_rfl) (fun _ _ _ h => h) (Or.inl ⟨by rfl, ?hySan30⟩) (by assumption) ?restSan30
        case hySan30 => (intro w hSw; (try dsimp only at hSw); go_simp <;> with_reducible rfl)
        try simp only [Act.put, List.setIfInBounds_toArray, List.set_cons_zero, List.set_cons_succ]
        refine wpAnyH_take (i := 1) (v := ?vSan31) (take_list rfl) (by kernel_rfl) (by kernel_rfl) (by kernel_rfl) (fun _ _ _ h => h) (Or.inl ⟨by rfl, ?hySan31⟩) (by assumption) ?restSan31
        case hySan31 => (intro w hSw; (try dsimp only at hSw); go_simp <;> with_reducible rfl)
        try simp only [Act.put, List.setIfInBounds_toArray, List.set_cons_zero, List.set_cons_succ]
        refine wpAnyH_take (i := 2) (v := ?vSan32) (take_list rfl) (by kernel_rfl) (by kernel_rfl) (by kernel_rfl) (fun _ _ _ h => h) (Or.inl ⟨by rfl, ?hySan32⟩) (by assumption) ?restSan32
        case hySan32 => (intro w hSw; (try dsimp only at hSw); go_simp <;> with_reducible rfl)
        try simp only [Act.put, List.setIfInBounds_toArray, List.set_cons_zero, List.set_cons_succ]
        refine wpAnyH_take (i := 3) (v := ?vSan33) (take_list rfl) (by kernel_rfl) (by kernel_rfl) (by kernel_rfl) (fun _ _ _ h => h) (Or.inl ⟨by rfl, ?hySan33⟩) (by assumption) ?restSan33
        case hySan33 => (intro w hSw; (try dsimp only at hSw); go_simp <;> with_reducible rfl)
        try simp only [Act.put, List.setIfInBounds_toArray, List.set_cons_zero, List.set_cons_succ]
        refine wpAnyH_take (i := 4) (v := ?vSan34) (take_list rfl) (by kernel_rfl) (by kernel_rfl) (by kernel_rfl) (fun _ _ _ h => h) (Or.inl ⟨by rfl, ?hySan34⟩) (by assumption) ?restSan34
        case hySan34 => (intro w hSw; (try dsimp only at hSw); go_simp <;> with_reducible rfl)
        try simp only [Act.put, List.setIfInBounds_toArray, List.set_cons_zero, List.set_cons_succ]
        refine wpAnyH_take (i := 5) (v := ?vSan35) (take_list rfl) (by kernel_rfl) (by kernel_rfl) (by kernel_rfl) (fun _ _ _ h => h) (Or.inl ⟨by rfl, ?hySan35⟩) (by assumption) ?restSan35
        case hySan35 => (intro w hSw; (try dsimp only at hSw); go_simp <;> with_reducible rfl)
        try simp only [Act.put, List.setIfInBounds_toArray, List.set_cons_zero, List.set_cons_succ]
        refine wpAnyH_take (i := 6) (v := ?vSan36) (take_list rfl) (by kernel_rfl) (by kernel_rfl) (by kernel_rfl) (fun _ _ _ h => h) (Or.inl ⟨by rfl, ?hySan36⟩) (by assumption) ?restSan36
        case hySan36 => (intro w hSw; (try dsimp only at hSw); go_simp <;> with_reducible rfl)
        try simp only [Act.put, List.setIfInBounds_toArray, List.set_cons_zero, List.set_cons_succ]
        refine wpAnyH_take (i := 7) (v := undef) (take_list rfl) (by kernel_rfl) (by kernel_rfl) (by kernel_rfl) (fun _ _ _ h => h) (Or.inr ⟨by rfl, rfl⟩) (by assumption) ?_
        try simp only [Act.put, List.setIfInBounds_toArray, List.set_cons_zero, List.set_cons_succ]
        refine wpAnyH_take (i := 8) (v := undef) (take_list rfl) (by kernel_rfl) (by kernel_rfl) (by kernel_rfl) (fun _ _ _ h => h) (Or.inr ⟨by rfl, rfl⟩) (by assumption) ?_
        try simp only [Act.put, List.setIfInBounds_toArray, List.set_cons_zero, List.set_cons_succ]
        refine wpAnyH_take (i := 9) (v := undef) (take_list rfl) (by kernel_rfl) (by kernel_rfl) (by kernel_rfl) (fun _ _ _ h => h) (Or.inr ⟨by rfl, rfl⟩) (by assumption) ?_
        try simp only [Act.put, List.setIfInBounds_toArray, List.set_cons_zero, List.set_cons_succ]
        refine wpAnyH_take (i := 10) (v := undef) (take_list rfl) (by kernel_rfl) (by kernel_rfl) (by kernel_rfl) (fun _ _ _ h => h) (Or.inr ⟨by rfl, rfl⟩) (by assumption) ?_
        try simp only [Act.put, List.setIfInBounds_toArray, List.set_cons_zero, List.set_cons_succ]
        refine wpAnyH_take (i := 11) (v := undef) (take_list rfl) (by kernel_rfl) (by kernel_rfl) (by kernel_rfl) (fun _ _ _ h => h) (Or.inr ⟨by rfl, rfl⟩) (by assumption) ?_
        try simp only [Act.put, List.setIfInBounds_toArray, List.set_cons_zero, List.set_cons_succ]
        refine wpAnyH_take (i := 12) (v := undef) (take_list rfl) (by kernel_rfl) (by kernel_rfl) (by kernel_rfl) (fun _ _ _ h => h) (Or.inr ⟨by rfl, rfl⟩) (by assumption) ?_
        try simp only [Act.put, List.setIfInBounds_toArray, List.set_cons_zero, List.set_cons_succ]
        refine wpAnyH_take (i := 13) (v := undef) (take_list rfl) (by kernel_rfl) (by kernel_rfl) (by kernel_rfl) (fun _ _ _ h => h) (Or.inr ⟨by rfl, rfl⟩) (by assumption) ?_
        try simp only [Act.put, List.setIfInBounds_toArray, List.set_cons_zero, List.set_cons_succ]
        refine wpAnyH_take (i := 14) (v := ?vSan314) (take_list rfl) (by kernel_rfl) (by kernel_rfl) (by kernel_rfl) (fun _ _ _ h => h) (Or.inl ⟨by rfl, ?hySan314⟩) (by assumption) ?restSan314
        case hySan314 => (intro w hSw; (try dsimp only at hSw); go_simp <;> with_reducible rfl)
        try simp only [Act.put, List.setIfInBounds_toArray, List.set_cons_zero, List.set_cons_succ]
        refine wpAnyH_done (by kernel_rfl) ?_ _
        go_wp2_with fail
        go_roundw
        case rel => exact ⟨i + 1, by go_num, by omega, by rw [SF.out]; exact NF.out, BM.out⟩
        case measure => simp [intOf]; omega
    · have d1 : decide ((i : Int) < 19) = false := by simp; omega
      obtain rfl : i = 19 := by omega
      have RES := Lib.hid (show stepT s = none by rw [SF.out]; rfl)
      obtain ⟨w5, rfl⟩ : ∃ x : World, x = wr := ⟨_, rfl⟩
      have B5 := Lib.hid BL.out
      have Z5 := Lib.hid (Z2.out.below B5.out hw2)
      have BW5 := Lib.hid (show Below w.heap.size w w5 from B2.out.trans (B5.out.mono B2.out.size))
      have hz5 : w.heap.size < w5.heap.size := Z5.out.size
      have k0 : w5.cell? ⟨w.heap.size, 0, none⟩ = some (.int .i64 0) := Z5.out.cell 0
      have k1 : w5.cell? ⟨w.heap.size, 1, none⟩ = some (.int .i64 0) := Z5.out.cell 1
      have k2 : w5.cell? ⟨w.heap.size, 2, none⟩ = some (.int .i64 0) := Z5.out.cell 2
      have k3 : w5.cell? ⟨w.heap.size, 3, none⟩ = some (strV []) := Z5.out.cell 3
      have k4 : w5.cell? ⟨w.heap.size, 4, none⟩ = some (.slice none 0 0) := Z5.out.cell 4
      have f0 : w5.frozen? ⟨w.heap.size, 0, none⟩ = false := Z5.out.free 0
      have f1 : w5.frozen? ⟨w.heap.size, 1, none⟩ = false := Z5.out.free 1
      have f2 : w5.frozen? ⟨w.heap.size, 2, none⟩ = false := Z5.out.free 2
      have f3 : w5.frozen? ⟨w.heap.size, 3, none⟩ = false := Z5.out.free 3
      have f4 : w5.frozen? ⟨w.heap.size, 4, none⟩ = false := Z5.out.free 4
      go_wp2_with fail
      have HB := Lib.hid (set5_blk Z5.out (zeroS) (none) (0))
      have HC := Lib.hid (set5_chg w5 w.heap.size (zeroS) (none) (0))
      change bodyPost _ _ _ _ _ (set5 w5 w.heap.size (zeroS) (none) (0))
      generalize set5 w5 w.heap.size (zeroS) (none) (0) = w6 at *
      have q0 : w6.cell? ⟨w.heap.size, 0, none⟩ = some (.int .i64 (zeroS).kind) := HB.out.cell 0
      have q1 : w6.cell? ⟨w.heap.size, 1, none⟩ = some (.int .i64 (zeroS).a) := HB.out.cell 1
      have q2 : w6.cell? ⟨w.heap.size, 2, none⟩ = some (.int .i64 (zeroS).b) := HB.out.cell 2
      have q3 : w6.cell? ⟨w.heap.size, 3, none⟩ = some (strV (zeroS).key) := HB.out.cell 3
      have q4 : w6.cell? ⟨w.heap.size, 4, none⟩ = some (.slice (none) (zeroS).data.length (0)) := HB.out.cell 4
      refine bodyPost_ret (v := .tuple #[stepV zeroS none 0, .int .i64 15]) ?_ rfl ⟨?_, (BW5.out.trans (HC.out.below (by have := BW5.out.size; omega) (fun k hk => by omega)))⟩
      · rw [results_cell_tmp rfl]
        go_simp
        rfl
      · rw [RES.out]
        rfl
end
end Go.Proofs.YtkkmojbaoflafaaDoor
