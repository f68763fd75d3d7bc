/- The document's step of a line. No condition beyond those that each theorem states. -/
import Derived.Test.YtkkmojbaoflafaaDoorY9
import Derived.Test.YtkkmojbaoflafaaDoorY17
import Derived.Test.YtkkmojbaoflafaaDoorY18
import Derived.Test.YtkkmojbaoflafaaDoorY22
namespace Go.Proofs.YtkkmojbaoflafaaDoor
open Go.RowKit Go.Shelf
attribute [local go_sem] Oper.semAt_some

/-- Block g begins with these cells of element type t, whatever of it is frozen. -/
def RowM (w : World) (g : Nat) (t : TypeId) (vals : List Value) : Prop := ∃ cs m, w.heap[g]? = some (.cells cs t m) ∧ cs.toList.take vals.length = vals
theorem RowM.size {w : World} {g : Nat} {t : TypeId} {vals : List Value} (h : RowM w g t vals) : g < w.heap.size := by
  obtain ⟨cs, m, h, _⟩ := h
  exact (Array.getElem?_eq_some_iff.1 h).1
theorem RowM.of_eq {w w' : World} {g : Nat} {t : TypeId} {vals : List Value} (h : RowM w g t vals) (he : w'.heap[g]? = w.heap[g]?) : RowM w' g t vals := by
  obtain ⟨cs, m, h, ht⟩ := h
  exact ⟨cs, m, he.trans h, ht⟩
theorem RowM.cell {w : World} {g : Nat} {t : TypeId} {vals : List Value} (h : RowM w g t vals) {i : Nat} {u : Value} (hu : vals[i]? = some u) : w.cell? ⟨g, i, none⟩ = some u := by
  obtain ⟨cs, m, h, ht⟩ := h
  rw [cell_of_row w g i cs t m h]
  have hi : i < vals.length := (List.getElem?_eq_some_iff.1 hu).1
  rw [← ht, List.getElem?_take, if_pos hi] at hu
  simpa using hu
theorem conv_new (w : World) (s : Str) : ∃ W' k, (convert 9 22 (strV s)).run Tryd.prog w = .ok (.slice (some ⟨w.heap.size, 0, none⟩) s.length k) W' ∧ RowM W' w.heap.size 5 (byteVals s) ∧ Below w.heap.size w W' := by
  have h := run_bytes_of_string (P := Tryd.prog) w 9 22 5 ⟨s.toArray⟩ Tryd.underlying9 Tryd.underlying22 Tryd.underlying5
  refine ⟨_, _, h, ⟨_, _, heap_alloc_new w.drew _, ?_⟩, below_drew2.alloc (Nat.le_refl w.heap.size) _⟩
  unfold bytesRow byteVals
  simp
/-- A slice of bytes: nil, or bytes at the head of a block that P holds of. -/
def DatB (P : Nat → Prop) (w : World) (A : Option Addr) (l : Str) : Prop := (A = none ∧ l = []) ∨ ∃ g, A = some ⟨g, 0, none⟩ ∧ P g ∧ RowM w g 5 (byteVals l)
theorem DatB.keep {P : Nat → Prop} {w w' : World} {A : Option Addr} {l : Str} (h : DatB P w A l) (hk : ∀ k cs m, P k → w.heap[k]? = some (.cells cs 5 m) → w'.heap[k]? = w.heap[k]?) : DatB P w' A l :=
  h.imp id fun ⟨g, h1, h2, h3⟩ => ⟨g, h1, h2, h3.of_eq (by obtain ⟨cs, m, h, _⟩ := h3; exact hk g cs m h2 h)⟩
theorem DatB.below {P : Nat → Prop} {w w' : World} {A : Option Addr} {l : Str} (h : DatB P w A l) (hb : Below w.heap.size w w') : DatB P w' A l := h.keep fun k _ _ _ hk => hb.block k (Array.getElem?_eq_some_iff.1 hk).1
theorem DatB.chg {P Q : Nat → Prop} {w w' : World} {A : Option Addr} {l : Str} (h : DatB P w A l) (hc : Chg Q w w') (hq : ∀ k, P k → ¬ Q k) : DatB P w' A l := h.keep fun k _ _ hp hk => hc.block k (Array.getElem?_eq_some_iff.1 hk).1 (hq k hp)
theorem DatB.bytes {P : Nat → Prop} {w : World} {A : Option Addr} {l : Str} (h : DatB P w A l) : BytesIn w A l.length l := by
  rcases h with ⟨rfl, rfl⟩ | ⟨g, rfl, _, h⟩
  · exact BytesIn.empty _ _
  · exact ⟨rfl, .inr ⟨g, 0, rfl, h.size, fun i u hu => by rw [Nat.zero_add]; exact h.cell (by rw [byteVals_get, hu]; rfl)⟩⟩
theorem DatB.mono {P Q : Nat → Prop} {w : World} {A : Option Addr} {l : Str} (h : DatB P w A l) (hq : ∀ k, P k → Q k) : DatB Q w A l := h.imp id fun ⟨g, h1, h2, h3⟩ => ⟨g, h1, hq g h2, h3⟩
def Okr (ok : Bool) (P Q : Prop) : Prop := (ok = true → P) ∧ (ok = false → Q)
theorem own_some {w : World} {base : Nat} {t : TypeId} {size n : Nat} {v : Value} {xs : List Value} (h : w.ownsRow base t size v n xs) (hn : 0 < n) : ∃ g c, v = .slice (some ⟨g, 0, none⟩) n c := by
  rcases h.2 with ⟨e, h0⟩ | ⟨g, cap, cur, e, _⟩
  · omega
  · exact ⟨g, cap, e⟩
def RStepTold (w : World) (o : Option StepV) (e : Ending) (w' : World) : Prop := match o with
  | some x => ∃ A c, e = .returned (.tuple #[stepV x A c, .int .i64 0]) ∧ DatB (fun k => w.heap.size ≤ k) w' A x.data
  | none => e = .returned (.tuple #[stepV zeroS none 0, .int .i64 15])
section
set_option maxHeartbeats 16000000
set_option maxRecDepth 100000
theorem rStep (s : Str) (w : World) (hs : s.length ≤ 1000000000) :
    Calls Tryd.prog 14 #[strV s] w fun e w' => RStepTold w (stepT s) e w' ∧ Below w.heap.size w w' := by
  go_enter Tryd.func14, Tryd.ntmps14
  go_upto_region 2 with (
    go_at_call 28
    refine (rSplit s 32 _ hs).mono ?_
    rintro e w1 ⟨⟨v, rfl, hrow⟩, hb1⟩
    have R0 := Lib.hid hrow
    have Z1 := Lib.hid (show Blk w1 w.heap.size 24 (stepCells zeroS none 0) from (Blk.made w _ _).below hb1 (by simp))
    have B1 := Lib.hid (show Below w.heap.size w w1 from ((Below.refl _ w).alloc (Nat.le_refl _) _).trans (hb1.mono (by simp)))
    clear hrow hb1)
  have hmem := fun x hx => split_mem (c := 32) (s := s) (x := x) hx
  have hall : ∀ x ∈ splitT 32 s, x.length ≤ 1000000000 := fun x hx => Nat.le_trans (split_len hx) hs
  obtain ⟨wd, ss, hsp⟩ : ∃ wd ss, splitT 32 s = wd :: ss := by
    cases h : splitT 32 s with
    | nil => exact absurd h (splitT_ne _ _)
    | cons a b => exact ⟨a, b, rfl⟩
  rw [hsp] at R0 hall
  obtain ⟨n, hn⟩ : ∃ n, (wd :: ss).length = n := ⟨_, rfl⟩
  rw [hn] at R0
  have HN := Lib.hid hn
  have hnn : 0 < n := by simp only [List.length_cons] at hn; omega
  have hnz : (0 : Int) < (n : Int) := by omega
  obtain ⟨g, cap, rfl⟩ := own_some R0.out hnn
  have R1 := Lib.hid (RowAt.of_own R0.out)
  have hg1 : g < w1.heap.size := R1.out.size
  have hw1 : w.heap.size < w1.heap.size := Z1.out.size
  have SP := Lib.hid hsp
  have AL := Lib.hid hall
  clear hsp hmem hall hn R0
  go_upto_region 3 with fail
  go_loopw [5] (fun v wr => ∃ k i : Nat, v = .int .i64 k ∧ k = i + 1 ∧ i ≤ 19 ∧ stepT s = stepFrom i (formsT.drop i) (wd :: ss) ∧ Below w1.heap.size w1 wr) (fun v _ => 20 - (intOf v).toNat)
  case atStart => exact ⟨1, 0, rfl, rfl, by omega, by unfold stepT; rw [SP.out]; rfl, Below.refl _ _⟩
  case round =>
    obtain ⟨k, i, rfl, hk, hi, hst, hbl⟩ := hrel
    have SF := Lib.hid hst
    have BL := Lib.hid hbl
    have HK := Lib.hid hk
    have hz := hbl.size
    clear hst hbl hk
    by_cases hlt : i < 19
    · have hk19 : k < 20 := by have := HK.out; omega
      have d1 : decide ((k : Int) ≤ 19) = true := decide_eq_true (by omega)
      have d2 : (k : Int) ≤ 19 := by omega
      have pk : IntKind.i64.wrap ((k : Int) + 1) = ((k + 1 : Nat) : Int) := by rw [IntWalk.i64_in _ (by omega)]; omega
      obtain ⟨f, hf⟩ := forms_get hlt
      have HF := Lib.hid hf
      have NS := Lib.hid (show stepFrom i (formsT.drop i) (wd :: ss) = if meets f (wd :: ss) then argsT f.2 ss ⟨(k : Int), 0, 0, [], []⟩ else stepFrom ((i : Int) + 1) (formsT.drop (i + 1)) (wd :: ss) by rw [drop_form hf, show (k : Int) = (i : Int) + 1 by have := HK.out; omega]; rfl)
      have RW := Lib.hid (rWord k f.1 f.2 (by rw [HK.out]; exact (words_get hf).1) (by rw [HK.out]; exact (words_get hf).2) wr)
      clear hf
      go_upto_region 6 with (
        go_at_call 22
        refine RW.out.mono ?_
        rintro e w2 ⟨rfl, hb2⟩
        have B2 := Lib.hid (show Below w1.heap.size w1 w2 from BL.out.trans (hb2.mono BL.out.size))
        clear hb2)
      have hz2 : w1.heap.size ≤ w2.heap.size := B2.out.size
      have q0 : w2.cell? ⟨g, 0, none⟩ = some (strV wd) := (R1.out.of_eq (B2.out.block g hg1)).cell (i := 0) rfl
      clear RW
      have hl2 : f.2.length ≤ 2 := by
        have h1 := (forms_facts f (List.mem_of_getElem? HF.out)).2.2
        have h2 : ∀ h ∈ kinds, h.length ≤ 2 := by decide
        exact h2 _ h1
      have hwl : IntKind.i64.wrap (1 + (f.2.length : Int)) = 1 + (f.2.length : Int) := IntWalk.i64_in _ (by omega)
      by_cases hw : wd = f.1
      · by_cases hm : n = 1 + f.2.length
        · have hq : ((n : Int) != 1 + (f.2.length : Int)) = false := by simp; omega
          have NF := Lib.hid (show stepFrom i (formsT.drop i) (wd :: ss) = argsT f.2 ss ⟨(k : Int), 0, 0, [], []⟩ by rw [NS.out, if_pos (by unfold meets; rw [HN.out]; simp [hm, hw])])
          have HM := Lib.hid hm
          clear hm
          subst hw
          go_upto_region 8 with fail
          obtain ⟨w4, hw4⟩ : ∃ v, (w2.alloc (.cells #[.int .i64 (k : Int), .int .i64 0, .int .i64 0, .string ⟨#[]⟩, .slice none 0 0] 24)) = v := ⟨_, rfl⟩
          obtain ⟨bx, hbx⟩ : ∃ b, w2.heap.size = b := ⟨_, rfl⟩
          have X0 := Lib.hid (show Blk w4 bx 24 (stepCells ⟨(k : Int), 0, 0, [], []⟩ none 0) by rw [← hw4, ← hbx]; exact Blk.made w2 _ _)
          have BI := Lib.hid (show Below w1.heap.size w1 w4 by rw [← hw4]; exact B2.out.alloc hz2 _)
          have hbz : w1.heap.size ≤ bx := by omega
          rw [hw4, hbx]
          clear hw4 hbx
          obtain ⟨m, hm2⟩ : ∃ m, f.2.length = m := ⟨_, rfl⟩
          have M2 := Lib.hid hm2
          rw [hm2] at hl2 hwl ⊢
          have hkm := fun x hx => kinds_mem f.2 (forms_facts f (List.mem_of_getElem? HF.out)).2.2 x hx
          have KM := Lib.hid hkm
          clear hkm q0 hq hwl hm2
          go_upto_region 10 with fail
          have hm3 : f.2.length = m := M2.out
          go_loopw [9, 10] (fun okv jv wx => ∃ (ok : Bool) (j : Nat) (y : StepV) (A : Option Addr) (c : Nat), okv = .bool ok ∧ jv = .int .i64 j ∧ j ≤ m ∧ Blk wx bx 24 (stepCells y A c) ∧ DatB (fun k => w1.heap.size ≤ k ∧ k ≠ bx) wx A y.data ∧ Okr ok (argsT (f.2.drop j) (ss.drop j) y = argsT f.2 ss ⟨(k : Int), 0, 0, [], []⟩) (argsT f.2 ss ⟨(k : Int), 0, 0, [], []⟩ = none) ∧ Below w1.heap.size w1 wx) (fun _ jv _ => m - (intOf jv).toNat)
          case atStart => exact ⟨true, 0, _, _, _, rfl, rfl, Nat.zero_le _, X0.out, .inl ⟨rfl, rfl⟩, ⟨fun _ => rfl, fun h => (by cases h)⟩, BI.out⟩
          case round =>
            obtain ⟨ok, j, y, A, c, rfl, rfl, hj, hx, hda, har, hbx⟩ := hrel
            have XA := Lib.hid hx
            have DA := Lib.hid hda
            have AR := Lib.hid har
            have BX := Lib.hid hbx
            have hxz : bx < wr.heap.size := hx.size
            have hxw : w1.heap.size ≤ wr.heap.size := hbx.size
            clear hx hda har hbx X0 BI
            by_cases hlj : j < m
            · obtain ⟨ch, hch⟩ : ∃ ch, f.2[j]? = some ch := ⟨_, List.getElem?_eq_getElem (by omega)⟩
              obtain ⟨sj, hsj⟩ : ∃ sj, ss[j]? = some sj := ⟨_, List.getElem?_eq_getElem (by have h1 := HN.out; have h2 := HM.out; simp only [List.length_cons] at h1; omega)⟩
              have hcl := KM.out ch (List.mem_of_getElem? hch)
              have hlen : sj.length ≤ 1000000000 := AL.out sj (List.mem_cons_of_mem _ (List.mem_of_getElem? hsj))
              have HCH := Lib.hid hch
              have HSJ := Lib.hid hsj
              have f1 : decide ((j : Int) < (m : Int)) = true := decide_eq_true (by omega)
              have f2 : (j : Int) < (m : Int) := by omega
              have f3 : (0 : Int) ≤ (j : Int) := by omega
              have p1 : IntKind.i64.wrap ((j : Int) + 1) = ((j + 1 : Nat) : Int) := by rw [IntWalk.i64_in _ (by omega)]; omega
              have p2 : IntKind.i64.wrap (1 + (j : Int)) = ((1 + j : Nat) : Int) := by rw [IntWalk.i64_in _ (by omega)]; omega
              have g1 : (0 : Int) ≤ ((1 + j : Nat) : Int) := by omega
              have g2 : ((1 + j : Nat) : Int) < (n : Int) := by have := HM.out; omega
              have g3 : 1 + j < n := by have := HM.out; omega
              have kj : wr.cell? ⟨g, 1 + j, none⟩ = some (strV sj) := (R1.out.of_eq (BX.out.block g hg1)).cell (by rw [Nat.add_comm]; simpa using hsj)
              have RB := Lib.hid (rBytes sj wr hlen)
              have RN := Lib.hid (rNumber sj wr)
              clear hch hsj hlen
              rcases hcl with rfl | rfl | rfl | rfl
              · have AS := Lib.hid (args_step HCH.out HSJ.out y)
                have e0 : ∀ h, ((⟨f.2.toArray⟩ : ByteArray)[j]'h).toNat = 107 := fun h => congrArg UInt8.toNat (List.getElem?_eq_some_iff.1 HCH.out).2
                cases ok
                · cases ho : unhexT sj with
                  | some d =>
                    have HO := Lib.hid (show setT y 107 sj = some { y with key := d } by unfold setT; rw [if_pos rfl, ho]; rfl)
                    rw [ho] at RB
                    simp only [bytesV] at RB
                    clear ho
                    go_upto_region 16 with (
                      go_at_call 29
                      refine RB.out.mono ?_
                      rintro e w3 ⟨rfl, hb3⟩
                      have B3 := Lib.hid (show Below w1.heap.size w1 w3 from BX.out.trans (hb3.mono BX.out.size))
                      have X3 := Lib.hid (XA.out.below hb3 XA.out.size)
                      have D3 := Lib.hid (DA.out.below hb3)
                      clear hb3)
                    have f3 : w3.frozen? ⟨bx, 3, none⟩ = false := X3.out.free 3
                    have k3 : w3.cell? ⟨bx, 3, none⟩ = some (strV y.key) := X3.out.cell 3
                    go_wp2_with fail
                    go_roundw
                    case rel => exact ⟨false, j + 1, { y with key := d }, A, c, by rfl, by simp, hlj, X3.out.store 3 (strV d), D3.out.chg ((Chg.refl (fun k => k = bx) w3).store (p := ⟨bx, 3, none⟩) (.inl rfl) (strV d)) (fun k hk => hk.2), ⟨fun h => (by cases h), fun _ => AR.out.2 rfl⟩, B3.out.trans (((Chg.refl (fun k => k = bx) w3).store (p := ⟨bx, 3, none⟩) (.inl rfl) (strV d)).below B3.out.size (fun k hk => by omega))⟩
                    case measure => simp only [intOf]; omega
                  | none =>
                    have HO := Lib.hid (show setT y 107 sj = none by unfold setT; rw [if_pos rfl, ho]; rfl)
                    rw [ho] at RB
                    simp only [bytesV] at RB
                    clear ho
                    go_upto_region 16 with (
                      go_at_call 29
                      refine RB.out.mono ?_
                      rintro e w3 ⟨rfl, hb3⟩
                      have B3 := Lib.hid (show Below w1.heap.size w1 w3 from BX.out.trans (hb3.mono BX.out.size))
                      have X3 := Lib.hid (XA.out.below hb3 XA.out.size)
                      have D3 := Lib.hid (DA.out.below hb3)
                      clear hb3)
                    have f3 : w3.frozen? ⟨bx, 3, none⟩ = false := X3.out.free 3
                    have k3 : w3.cell? ⟨bx, 3, none⟩ = some (strV y.key) := X3.out.cell 3
                    go_wp2_with fail
                    go_roundw
                    case rel => exact ⟨false, j + 1, { y with key := [] }, A, c, by rfl, by simp, hlj, X3.out.store 3 (strV []), D3.out.chg ((Chg.refl (fun k => k = bx) w3).store (p := ⟨bx, 3, none⟩) (.inl rfl) (strV [])) (fun k hk => hk.2), ⟨fun h => (by cases h), fun _ => AR.out.2 rfl⟩, B3.out.trans (((Chg.refl (fun k => k = bx) w3).store (p := ⟨bx, 3, none⟩) (.inl rfl) (strV [])).below B3.out.size (fun k hk => by omega))⟩
                    case measure => simp only [intOf]; omega
                · cases ho : unhexT sj with
                  | some d =>
                    have HO := Lib.hid (show setT y 107 sj = some { y with key := d } by unfold setT; rw [if_pos rfl, ho]; rfl)
                    rw [ho] at RB
                    simp only [bytesV] at RB
                    clear ho
                    go_upto_region 16 with (
                      go_at_call 29
                      refine RB.out.mono ?_
                      rintro e w3 ⟨rfl, hb3⟩
                      have B3 := Lib.hid (show Below w1.heap.size w1 w3 from BX.out.trans (hb3.mono BX.out.size))
                      have X3 := Lib.hid (XA.out.below hb3 XA.out.size)
                      have D3 := Lib.hid (DA.out.below hb3)
                      clear hb3)
                    have f3 : w3.frozen? ⟨bx, 3, none⟩ = false := X3.out.free 3
                    have k3 : w3.cell? ⟨bx, 3, none⟩ = some (strV y.key) := X3.out.cell 3
                    go_wp2_with fail
                    go_roundw
                    case rel => exact ⟨true, j + 1, { y with key := d }, A, c, by rfl, by simp, hlj, X3.out.store 3 (strV d), D3.out.chg ((Chg.refl (fun k => k = bx) w3).store (p := ⟨bx, 3, none⟩) (.inl rfl) (strV d)) (fun k hk => hk.2), ⟨fun _ => by rw [← AR.out.1 rfl, AS.out, HO.out]; rfl, fun h => (by cases h)⟩, B3.out.trans (((Chg.refl (fun k => k = bx) w3).store (p := ⟨bx, 3, none⟩) (.inl rfl) (strV d)).below B3.out.size (fun k hk => by omega))⟩
                    case measure => simp only [intOf]; omega
                  | none =>
                    have HO := Lib.hid (show setT y 107 sj = none by unfold setT; rw [if_pos rfl, ho]; rfl)
                    rw [ho] at RB
                    simp only [bytesV] at RB
                    clear ho
                    go_upto_region 16 with (
                      go_at_call 29
                      refine RB.out.mono ?_
                      rintro e w3 ⟨rfl, hb3⟩
                      have B3 := Lib.hid (show Below w1.heap.size w1 w3 from BX.out.trans (hb3.mono BX.out.size))
                      have X3 := Lib.hid (XA.out.below hb3 XA.out.size)
                      have D3 := Lib.hid (DA.out.below hb3)
                      clear hb3)
                    have f3 : w3.frozen? ⟨bx, 3, none⟩ = false := X3.out.free 3
                    have k3 : w3.cell? ⟨bx, 3, none⟩ = some (strV y.key) := X3.out.cell 3
                    go_wp2_with fail
                    go_roundw
                    case rel => exact ⟨false, j + 1, { y with key := [] }, A, c, by rfl, by simp, hlj, X3.out.store 3 (strV []), D3.out.chg ((Chg.refl (fun k => k = bx) w3).store (p := ⟨bx, 3, none⟩) (.inl rfl) (strV [])) (fun k hk => hk.2), ⟨fun h => (by cases h), fun _ => by rw [← AR.out.1 rfl, AS.out, HO.out]; rfl⟩, B3.out.trans (((Chg.refl (fun k => k = bx) w3).store (p := ⟨bx, 3, none⟩) (.inl rfl) (strV [])).below B3.out.size (fun k hk => by omega))⟩
                    case measure => simp only [intOf]; omega
              · have AS := Lib.hid (args_step HCH.out HSJ.out y)
                have e0 : ∀ h, ((⟨f.2.toArray⟩ : ByteArray)[j]'h).toNat = 100 := fun h => congrArg UInt8.toNat (List.getElem?_eq_some_iff.1 HCH.out).2
                cases ok
                · cases ho : unhexT sj with
                  | some d =>
                    have HO := Lib.hid (show setT y 100 sj = some { y with data := d } by unfold setT; rw [if_neg (by decide), if_pos rfl, ho]; rfl)
                    rw [ho] at RB
                    simp only [bytesV] at RB
                    clear ho
                    go_upto_region 16 with (
                      go_at_call 29
                      refine RB.out.mono ?_
                      rintro e w3 ⟨rfl, hb3⟩
                      have B3 := Lib.hid (show Below w1.heap.size w1 w3 from BX.out.trans (hb3.mono BX.out.size))
                      have X3 := Lib.hid (XA.out.below hb3 XA.out.size)
                      have D3 := Lib.hid (DA.out.below hb3)
                      clear hb3)
                    obtain ⟨w4, dc, hcv, hbi, hbw⟩ := conv_new w3 d
                    have hx3 : bx < w3.heap.size := X3.out.size
                    have B4 := Lib.hid (show Below w1.heap.size w1 w4 from B3.out.trans (hbw.mono B3.out.size))
                    have X4 := Lib.hid (X3.out.below hbw X3.out.size)
                    have D4 := Lib.hid (show DatB (fun k => w1.heap.size ≤ k ∧ k ≠ bx) w4 (some ⟨w3.heap.size, 0, none⟩) d from .inr ⟨_, rfl, ⟨B3.out.size, by omega⟩, hbi⟩)
                    have f4 : w4.frozen? ⟨bx, 4, none⟩ = false := X4.out.free 4
                    have k4 : w4.cell? ⟨bx, 4, none⟩ = some (.slice A y.data.length c) := X4.out.cell 4
                    clear hbi hbw
                    go_wp2_with fail
                    go_roundw
                    case rel => exact ⟨false, j + 1, { y with data := d }, some ⟨w3.heap.size, 0, none⟩, dc, by rfl, by simp, hlj, X4.out.store 4 (.slice (some ⟨w3.heap.size, 0, none⟩) (d : Str).length dc), D4.out.chg ((Chg.refl (fun k => k = bx) w4).store (p := ⟨bx, 4, none⟩) (.inl rfl) (.slice (some ⟨w3.heap.size, 0, none⟩) (d : Str).length dc)) (fun k hk => hk.2), ⟨fun h => (by cases h), fun _ => AR.out.2 rfl⟩, B4.out.trans (((Chg.refl (fun k => k = bx) w4).store (p := ⟨bx, 4, none⟩) (.inl rfl) (.slice (some ⟨w3.heap.size, 0, none⟩) (d : Str).length dc)).below B4.out.size (fun k hk => by omega))⟩
                    case measure => simp only [intOf]; omega
                  | none =>
                    have HO := Lib.hid (show setT y 100 sj = none by unfold setT; rw [if_neg (by decide), if_pos rfl, ho]; rfl)
                    rw [ho] at RB
                    simp only [bytesV] at RB
                    clear ho
                    go_upto_region 16 with (
                      go_at_call 29
                      refine RB.out.mono ?_
                      rintro e w3 ⟨rfl, hb3⟩
                      have B3 := Lib.hid (show Below w1.heap.size w1 w3 from BX.out.trans (hb3.mono BX.out.size))
                      have X3 := Lib.hid (XA.out.below hb3 XA.out.size)
                      have D3 := Lib.hid (DA.out.below hb3)
                      clear hb3)
                    obtain ⟨w4, dc, hcv, hbi, hbw⟩ := conv_new w3 []
                    have hx3 : bx < w3.heap.size := X3.out.size
                    have B4 := Lib.hid (show Below w1.heap.size w1 w4 from B3.out.trans (hbw.mono B3.out.size))
                    have X4 := Lib.hid (X3.out.below hbw X3.out.size)
                    have D4 := Lib.hid (show DatB (fun k => w1.heap.size ≤ k ∧ k ≠ bx) w4 (some ⟨w3.heap.size, 0, none⟩) [] from .inr ⟨_, rfl, ⟨B3.out.size, by omega⟩, hbi⟩)
                    have f4 : w4.frozen? ⟨bx, 4, none⟩ = false := X4.out.free 4
                    have k4 : w4.cell? ⟨bx, 4, none⟩ = some (.slice A y.data.length c) := X4.out.cell 4
                    clear hbi hbw
                    go_wp2_with fail
                    go_roundw
                    case rel => exact ⟨false, j + 1, { y with data := [] }, some ⟨w3.heap.size, 0, none⟩, dc, by rfl, by simp, hlj, X4.out.store 4 (.slice (some ⟨w3.heap.size, 0, none⟩) ([] : Str).length dc), D4.out.chg ((Chg.refl (fun k => k = bx) w4).store (p := ⟨bx, 4, none⟩) (.inl rfl) (.slice (some ⟨w3.heap.size, 0, none⟩) ([] : Str).length dc)) (fun k hk => hk.2), ⟨fun h => (by cases h), fun _ => AR.out.2 rfl⟩, B4.out.trans (((Chg.refl (fun k => k = bx) w4).store (p := ⟨bx, 4, none⟩) (.inl rfl) (.slice (some ⟨w3.heap.size, 0, none⟩) ([] : Str).length dc)).below B4.out.size (fun k hk => by omega))⟩
                    case measure => simp only [intOf]; omega
                · cases ho : unhexT sj with
                  | some d =>
                    have HO := Lib.hid (show setT y 100 sj = some { y with data := d } by unfold setT; rw [if_neg (by decide), if_pos rfl, ho]; rfl)
                    rw [ho] at RB
                    simp only [bytesV] at RB
                    clear ho
                    go_upto_region 16 with (
                      go_at_call 29
                      refine RB.out.mono ?_
                      rintro e w3 ⟨rfl, hb3⟩
                      have B3 := Lib.hid (show Below w1.heap.size w1 w3 from BX.out.trans (hb3.mono BX.out.size))
                      have X3 := Lib.hid (XA.out.below hb3 XA.out.size)
                      have D3 := Lib.hid (DA.out.below hb3)
                      clear hb3)
                    obtain ⟨w4, dc, hcv, hbi, hbw⟩ := conv_new w3 d
                    have hx3 : bx < w3.heap.size := X3.out.size
                    have B4 := Lib.hid (show Below w1.heap.size w1 w4 from B3.out.trans (hbw.mono B3.out.size))
                    have X4 := Lib.hid (X3.out.below hbw X3.out.size)
                    have D4 := Lib.hid (show DatB (fun k => w1.heap.size ≤ k ∧ k ≠ bx) w4 (some ⟨w3.heap.size, 0, none⟩) d from .inr ⟨_, rfl, ⟨B3.out.size, by omega⟩, hbi⟩)
                    have f4 : w4.frozen? ⟨bx, 4, none⟩ = false := X4.out.free 4
                    have k4 : w4.cell? ⟨bx, 4, none⟩ = some (.slice A y.data.length c) := X4.out.cell 4
                    clear hbi hbw
                    go_wp2_with fail
                    go_roundw
                    case rel => exact ⟨true, j + 1, { y with data := d }, some ⟨w3.heap.size, 0, none⟩, dc, by rfl, by simp, hlj, X4.out.store 4 (.slice (some ⟨w3.heap.size, 0, none⟩) (d : Str).length dc), D4.out.chg ((Chg.refl (fun k => k = bx) w4).store (p := ⟨bx, 4, none⟩) (.inl rfl) (.slice (some ⟨w3.heap.size, 0, none⟩) (d : Str).length dc)) (fun k hk => hk.2), ⟨fun _ => by rw [← AR.out.1 rfl, AS.out, HO.out]; rfl, fun h => (by cases h)⟩, B4.out.trans (((Chg.refl (fun k => k = bx) w4).store (p := ⟨bx, 4, none⟩) (.inl rfl) (.slice (some ⟨w3.heap.size, 0, none⟩) (d : Str).length dc)).below B4.out.size (fun k hk => by omega))⟩
                    case measure => simp only [intOf]; omega
                  | none =>
                    have HO := Lib.hid (show setT y 100 sj = none by unfold setT; rw [if_neg (by decide), if_pos rfl, ho]; rfl)
                    rw [ho] at RB
                    simp only [bytesV] at RB
                    clear ho
                    go_upto_region 16 with (
                      go_at_call 29
                      refine RB.out.mono ?_
                      rintro e w3 ⟨rfl, hb3⟩
                      have B3 := Lib.hid (show Below w1.heap.size w1 w3 from BX.out.trans (hb3.mono BX.out.size))
                      have X3 := Lib.hid (XA.out.below hb3 XA.out.size)
                      have D3 := Lib.hid (DA.out.below hb3)
                      clear hb3)
                    obtain ⟨w4, dc, hcv, hbi, hbw⟩ := conv_new w3 []
                    have hx3 : bx < w3.heap.size := X3.out.size
                    have B4 := Lib.hid (show Below w1.heap.size w1 w4 from B3.out.trans (hbw.mono B3.out.size))
                    have X4 := Lib.hid (X3.out.below hbw X3.out.size)
                    have D4 := Lib.hid (show DatB (fun k => w1.heap.size ≤ k ∧ k ≠ bx) w4 (some ⟨w3.heap.size, 0, none⟩) [] from .inr ⟨_, rfl, ⟨B3.out.size, by omega⟩, hbi⟩)
                    have f4 : w4.frozen? ⟨bx, 4, none⟩ = false := X4.out.free 4
                    have k4 : w4.cell? ⟨bx, 4, none⟩ = some (.slice A y.data.length c) := X4.out.cell 4
                    clear hbi hbw
                    go_wp2_with fail
                    go_roundw
                    case rel => exact ⟨false, j + 1, { y with data := [] }, some ⟨w3.heap.size, 0, none⟩, dc, by rfl, by simp, hlj, X4.out.store 4 (.slice (some ⟨w3.heap.size, 0, none⟩) ([] : Str).length dc), D4.out.chg ((Chg.refl (fun k => k = bx) w4).store (p := ⟨bx, 4, none⟩) (.inl rfl) (.slice (some ⟨w3.heap.size, 0, none⟩) ([] : Str).length dc)) (fun k hk => hk.2), ⟨fun h => (by cases h), fun _ => by rw [← AR.out.1 rfl, AS.out, HO.out]; rfl⟩, B4.out.trans (((Chg.refl (fun k => k = bx) w4).store (p := ⟨bx, 4, none⟩) (.inl rfl) (.slice (some ⟨w3.heap.size, 0, none⟩) ([] : Str).length dc)).below B4.out.size (fun k hk => by omega))⟩
                    case measure => simp only [intOf]; omega
              · have AS := Lib.hid (args_step HCH.out HSJ.out y)
                have e0 : ∀ h, ((⟨f.2.toArray⟩ : ByteArray)[j]'h).toNat = 97 := fun h => congrArg UInt8.toNat (List.getElem?_eq_some_iff.1 HCH.out).2
                cases ok
                · go_upto_region 16 with (
                    go_at_call 30
                    refine RN.out.mono ?_
                    rintro e w3 ⟨⟨v, rfl, hv⟩, hb3⟩
                    have HV := Lib.hid hv
                    have B3 := Lib.hid (show Below w1.heap.size w1 w3 from BX.out.trans (hb3.mono BX.out.size))
                    have X3 := Lib.hid (XA.out.below hb3 XA.out.size)
                    have D3 := Lib.hid (DA.out.below hb3)
                    clear hb3 hv)
                  have f3 : w3.frozen? ⟨bx, 1, none⟩ = false := X3.out.free 1
                  have k3 : w3.cell? ⟨bx, 1, none⟩ = some (.int .i64 y.a) := X3.out.cell 1
                  cases ho : numT sj with
                  | some u =>
                    obtain rfl : v = u := HV.out u ho
                    have HO := Lib.hid (show setT y 97 sj = some { y with a := v } by unfold setT; rw [if_neg (by decide), if_neg (by decide), if_pos rfl, ho]; rfl)
                    simp only [Option.isSome_some]
                    clear ho
                    go_wp2_with fail
                    go_roundw
                    case rel => exact ⟨false, j + 1, { y with a := v }, A, c, by rfl, by simp, hlj, X3.out.store 1 (.int .i64 v), D3.out.chg ((Chg.refl (fun k => k = bx) w3).store (p := ⟨bx, 1, none⟩) (.inl rfl) (.int .i64 v)) (fun k hk => hk.2), ⟨fun h => (by cases h), fun _ => AR.out.2 rfl⟩, B3.out.trans (((Chg.refl (fun k => k = bx) w3).store (p := ⟨bx, 1, none⟩) (.inl rfl) (.int .i64 v)).below B3.out.size (fun k hk => by omega))⟩
                    case measure => simp only [intOf]; omega
                  | none =>
                    skip
                    have HO := Lib.hid (show setT y 97 sj = none by unfold setT; rw [if_neg (by decide), if_neg (by decide), if_pos rfl, ho]; rfl)
                    simp only [Option.isSome_none]
                    clear ho
                    go_wp2_with fail
                    go_roundw
                    case rel => exact ⟨false, j + 1, { y with a := v }, A, c, by rfl, by simp, hlj, X3.out.store 1 (.int .i64 v), D3.out.chg ((Chg.refl (fun k => k = bx) w3).store (p := ⟨bx, 1, none⟩) (.inl rfl) (.int .i64 v)) (fun k hk => hk.2), ⟨fun h => (by cases h), fun _ => AR.out.2 rfl⟩, B3.out.trans (((Chg.refl (fun k => k = bx) w3).store (p := ⟨bx, 1, none⟩) (.inl rfl) (.int .i64 v)).below B3.out.size (fun k hk => by omega))⟩
                    case measure => simp only [intOf]; omega
                · go_upto_region 16 with (
                    go_at_call 30
                    refine RN.out.mono ?_
                    rintro e w3 ⟨⟨v, rfl, hv⟩, hb3⟩
                    have HV := Lib.hid hv
                    have B3 := Lib.hid (show Below w1.heap.size w1 w3 from BX.out.trans (hb3.mono BX.out.size))
                    have X3 := Lib.hid (XA.out.below hb3 XA.out.size)
                    have D3 := Lib.hid (DA.out.below hb3)
                    clear hb3 hv)
                  have f3 : w3.frozen? ⟨bx, 1, none⟩ = false := X3.out.free 1
                  have k3 : w3.cell? ⟨bx, 1, none⟩ = some (.int .i64 y.a) := X3.out.cell 1
                  cases ho : numT sj with
                  | some u =>
                    obtain rfl : v = u := HV.out u ho
                    have HO := Lib.hid (show setT y 97 sj = some { y with a := v } by unfold setT; rw [if_neg (by decide), if_neg (by decide), if_pos rfl, ho]; rfl)
                    simp only [Option.isSome_some]
                    clear ho
                    go_wp2_with fail
                    go_roundw
                    case rel => exact ⟨true, j + 1, { y with a := v }, A, c, by rfl, by simp, hlj, X3.out.store 1 (.int .i64 v), D3.out.chg ((Chg.refl (fun k => k = bx) w3).store (p := ⟨bx, 1, none⟩) (.inl rfl) (.int .i64 v)) (fun k hk => hk.2), ⟨fun _ => by rw [← AR.out.1 rfl, AS.out, HO.out]; rfl, fun h => (by cases h)⟩, B3.out.trans (((Chg.refl (fun k => k = bx) w3).store (p := ⟨bx, 1, none⟩) (.inl rfl) (.int .i64 v)).below B3.out.size (fun k hk => by omega))⟩
                    case measure => simp only [intOf]; omega
                  | none =>
                    skip
                    have HO := Lib.hid (show setT y 97 sj = none by unfold setT; rw [if_neg (by decide), if_neg (by decide), if_pos rfl, ho]; rfl)
                    simp only [Option.isSome_none]
                    clear ho
                    go_wp2_with fail
                    go_roundw
                    case rel => exact ⟨false, j + 1, { y with a := v }, A, c, by rfl, by simp, hlj, X3.out.store 1 (.int .i64 v), D3.out.chg ((Chg.refl (fun k => k = bx) w3).store (p := ⟨bx, 1, none⟩) (.inl rfl) (.int .i64 v)) (fun k hk => hk.2), ⟨fun h => (by cases h), fun _ => by rw [← AR.out.1 rfl, AS.out, HO.out]; rfl⟩, B3.out.trans (((Chg.refl (fun k => k = bx) w3).store (p := ⟨bx, 1, none⟩) (.inl rfl) (.int .i64 v)).below B3.out.size (fun k hk => by omega))⟩
                    case measure => simp only [intOf]; omega
              · have AS := Lib.hid (args_step HCH.out HSJ.out y)
                have e0 : ∀ h, ((⟨f.2.toArray⟩ : ByteArray)[j]'h).toNat = 98 := fun h => congrArg UInt8.toNat (List.getElem?_eq_some_iff.1 HCH.out).2
                cases ok
                · go_upto_region 16 with (
                    go_at_call 30
                    refine RN.out.mono ?_
                    rintro e w3 ⟨⟨v, rfl, hv⟩, hb3⟩
                    have HV := Lib.hid hv
                    have B3 := Lib.hid (show Below w1.heap.size w1 w3 from BX.out.trans (hb3.mono BX.out.size))
                    have X3 := Lib.hid (XA.out.below hb3 XA.out.size)
                    have D3 := Lib.hid (DA.out.below hb3)
                    clear hb3 hv)
                  have f3 : w3.frozen? ⟨bx, 2, none⟩ = false := X3.out.free 2
                  have k3 : w3.cell? ⟨bx, 2, none⟩ = some (.int .i64 y.b) := X3.out.cell 2
                  cases ho : numT sj with
                  | some u =>
                    obtain rfl : v = u := HV.out u ho
                    have HO := Lib.hid (show setT y 98 sj = some { y with b := v } by unfold setT; rw [if_neg (by decide), if_neg (by decide), if_neg (by decide), ho]; rfl)
                    simp only [Option.isSome_some]
                    clear ho
                    go_wp2_with fail
                    go_roundw
                    case rel => exact ⟨false, j + 1, { y with b := v }, A, c, by rfl, by simp, hlj, X3.out.store 2 (.int .i64 v), D3.out.chg ((Chg.refl (fun k => k = bx) w3).store (p := ⟨bx, 2, none⟩) (.inl rfl) (.int .i64 v)) (fun k hk => hk.2), ⟨fun h => (by cases h), fun _ => AR.out.2 rfl⟩, B3.out.trans (((Chg.refl (fun k => k = bx) w3).store (p := ⟨bx, 2, none⟩) (.inl rfl) (.int .i64 v)).below B3.out.size (fun k hk => by omega))⟩
                    case measure => simp only [intOf]; omega
                  | none =>
                    skip
                    have HO := Lib.hid (show setT y 98 sj = none by unfold setT; rw [if_neg (by decide), if_neg (by decide), if_neg (by decide), ho]; rfl)
                    simp only [Option.isSome_none]
                    clear ho
                    go_wp2_with fail
                    go_roundw
                    case rel => exact ⟨false, j + 1, { y with b := v }, A, c, by rfl, by simp, hlj, X3.out.store 2 (.int .i64 v), D3.out.chg ((Chg.refl (fun k => k = bx) w3).store (p := ⟨bx, 2, none⟩) (.inl rfl) (.int .i64 v)) (fun k hk => hk.2), ⟨fun h => (by cases h), fun _ => AR.out.2 rfl⟩, B3.out.trans (((Chg.refl (fun k => k = bx) w3).store (p := ⟨bx, 2, none⟩) (.inl rfl) (.int .i64 v)).below B3.out.size (fun k hk => by omega))⟩
                    case measure => simp only [intOf]; omega
                · go_upto_region 16 with (
                    go_at_call 30
                    refine RN.out.mono ?_
                    rintro e w3 ⟨⟨v, rfl, hv⟩, hb3⟩
                    have HV := Lib.hid hv
                    have B3 := Lib.hid (show Below w1.heap.size w1 w3 from BX.out.trans (hb3.mono BX.out.size))
                    have X3 := Lib.hid (XA.out.below hb3 XA.out.size)
                    have D3 := Lib.hid (DA.out.below hb3)
                    clear hb3 hv)
                  have f3 : w3.frozen? ⟨bx, 2, none⟩ = false := X3.out.free 2
                  have k3 : w3.cell? ⟨bx, 2, none⟩ = some (.int .i64 y.b) := X3.out.cell 2
                  cases ho : numT sj with
                  | some u =>
                    obtain rfl : v = u := HV.out u ho
                    have HO := Lib.hid (show setT y 98 sj = some { y with b := v } by unfold setT; rw [if_neg (by decide), if_neg (by decide), if_neg (by decide), ho]; rfl)
                    simp only [Option.isSome_some]
                    clear ho
                    go_wp2_with fail
                    go_roundw
                    case rel => exact ⟨true, j + 1, { y with b := v }, A, c, by rfl, by simp, hlj, X3.out.store 2 (.int .i64 v), D3.out.chg ((Chg.refl (fun k => k = bx) w3).store (p := ⟨bx, 2, none⟩) (.inl rfl) (.int .i64 v)) (fun k hk => hk.2), ⟨fun _ => by rw [← AR.out.1 rfl, AS.out, HO.out]; rfl, fun h => (by cases h)⟩, B3.out.trans (((Chg.refl (fun k => k = bx) w3).store (p := ⟨bx, 2, none⟩) (.inl rfl) (.int .i64 v)).below B3.out.size (fun k hk => by omega))⟩
                    case measure => simp only [intOf]; omega
                  | none =>
                    skip
                    have HO := Lib.hid (show setT y 98 sj = none by unfold setT; rw [if_neg (by decide), if_neg (by decide), if_neg (by decide), ho]; rfl)
                    simp only [Option.isSome_none]
                    clear ho
                    go_wp2_with fail
                    go_roundw
                    case rel => exact ⟨false, j + 1, { y with b := v }, A, c, by rfl, by simp, hlj, X3.out.store 2 (.int .i64 v), D3.out.chg ((Chg.refl (fun k => k = bx) w3).store (p := ⟨bx, 2, none⟩) (.inl rfl) (.int .i64 v)) (fun k hk => hk.2), ⟨fun h => (by cases h), fun _ => by rw [← AR.out.1 rfl, AS.out, HO.out]; rfl⟩, B3.out.trans (((Chg.refl (fun k => k = bx) w3).store (p := ⟨bx, 2, none⟩) (.inl rfl) (.int .i64 v)).below B3.out.size (fun k hk => by omega))⟩
                    case measure => simp only [intOf]; omega
            · have hjm : j = m := by omega
              have f1 : decide ((j : Int) < (m : Int)) = false := decide_eq_false (by omega)
              have f2 : ¬ (j : Int) < (m : Int) := by omega
              obtain ⟨w5, rfl⟩ : ∃ x : World, x = wr := ⟨_, rfl⟩
              have B5 := Lib.hid BX.out
              cases ok
              · have RES := Lib.hid (show stepT s = none by rw [SF.out, NF.out, AR.out.2 rfl])
                clear hjm
                have Z5 := Lib.hid (Z1.out.below B5.out hw1)
                have BW5 := Lib.hid (show Below w.heap.size w w5 from B1.out.trans (B5.out.mono B1.out.size))
                have hz5 : w.heap.size < w5.heap.size := Z5.out.size
                have k0 : w5.cell? ⟨w.heap.size, 0, none⟩ = some (.int .i64 0) := Z5.out.cell 0
                have k1 : w5.cell? ⟨w.heap.size, 1, none⟩ = some (.int .i64 0) := Z5.out.cell 1
                have k2 : w5.cell? ⟨w.heap.size, 2, none⟩ = some (.int .i64 0) := Z5.out.cell 2
                have k3 : w5.cell? ⟨w.heap.size, 3, none⟩ = some (strV []) := Z5.out.cell 3
                have k4 : w5.cell? ⟨w.heap.size, 4, none⟩ = some (.slice none 0 0) := Z5.out.cell 4
                have f0 : w5.frozen? ⟨w.heap.size, 0, none⟩ = false := Z5.out.free 0
                have f1 : w5.frozen? ⟨w.heap.size, 1, none⟩ = false := Z5.out.free 1
                have f2 : w5.frozen? ⟨w.heap.size, 2, none⟩ = false := Z5.out.free 2
                have f3 : w5.frozen? ⟨w.heap.size, 3, none⟩ = false := Z5.out.free 3
                have f4 : w5.frozen? ⟨w.heap.size, 4, none⟩ = false := Z5.out.free 4
                go_wp2_with fail
                have HB := Lib.hid (set5_blk Z5.out (zeroS) (none) (0))
                have HC := Lib.hid (set5_chg w5 w.heap.size (zeroS) (none) (0))
                change bodyPost _ _ _ _ _ (set5 w5 w.heap.size (zeroS) (none) (0))
                generalize set5 w5 w.heap.size (zeroS) (none) (0) = w6 at *
                have q0 : w6.cell? ⟨w.heap.size, 0, none⟩ = some (.int .i64 (zeroS).kind) := HB.out.cell 0
                have q1 : w6.cell? ⟨w.heap.size, 1, none⟩ = some (.int .i64 (zeroS).a) := HB.out.cell 1
                have q2 : w6.cell? ⟨w.heap.size, 2, none⟩ = some (.int .i64 (zeroS).b) := HB.out.cell 2
                have q3 : w6.cell? ⟨w.heap.size, 3, none⟩ = some (strV (zeroS).key) := HB.out.cell 3
                have q4 : w6.cell? ⟨w.heap.size, 4, none⟩ = some (.slice (none) (zeroS).data.length (0)) := HB.out.cell 4
                refine bodyPost_ret (v := .tuple #[stepV zeroS none 0, .int .i64 15]) ?_ rfl ⟨?_, (BW5.out.trans (HC.out.below (by have := BW5.out.size; omega) (fun k hk => by omega)))⟩
                · rw [results_cell_tmp rfl]
                  go_simp
                  rfl
                · rw [RES.out]
                  rfl
              · have RES := Lib.hid (show stepT s = some y by rw [SF.out, NF.out, ← AR.out.1 rfl, List.drop_of_length_le (by rw [M2.out]; omega)]; rfl)
                clear hjm
                have y0 : w5.cell? ⟨bx, 0, none⟩ = some (.int .i64 y.kind) := XA.out.cell 0
                have y1 : w5.cell? ⟨bx, 1, none⟩ = some (.int .i64 y.a) := XA.out.cell 1
                have y2 : w5.cell? ⟨bx, 2, none⟩ = some (.int .i64 y.b) := XA.out.cell 2
                have y3 : w5.cell? ⟨bx, 3, none⟩ = some (strV y.key) := XA.out.cell 3
                have y4 : w5.cell? ⟨bx, 4, none⟩ = some (.slice A y.data.length c) := XA.out.cell 4
                have Z5 := Lib.hid (Z1.out.below B5.out hw1)
                have BW5 := Lib.hid (show Below w.heap.size w w5 from B1.out.trans (B5.out.mono B1.out.size))
                have hz5 : w.heap.size < w5.heap.size := Z5.out.size
                have k0 : w5.cell? ⟨w.heap.size, 0, none⟩ = some (.int .i64 0) := Z5.out.cell 0
                have k1 : w5.cell? ⟨w.heap.size, 1, none⟩ = some (.int .i64 0) := Z5.out.cell 1
                have k2 : w5.cell? ⟨w.heap.size, 2, none⟩ = some (.int .i64 0) := Z5.out.cell 2
                have k3 : w5.cell? ⟨w.heap.size, 3, none⟩ = some (strV []) := Z5.out.cell 3
                have k4 : w5.cell? ⟨w.heap.size, 4, none⟩ = some (.slice none 0 0) := Z5.out.cell 4
                have f0 : w5.frozen? ⟨w.heap.size, 0, none⟩ = false := Z5.out.free 0
                have f1 : w5.frozen? ⟨w.heap.size, 1, none⟩ = false := Z5.out.free 1
                have f2 : w5.frozen? ⟨w.heap.size, 2, none⟩ = false := Z5.out.free 2
                have f3 : w5.frozen? ⟨w.heap.size, 3, none⟩ = false := Z5.out.free 3
                have f4 : w5.frozen? ⟨w.heap.size, 4, none⟩ = false := Z5.out.free 4
                go_wp2_with fail
                have HB := Lib.hid (set5_blk Z5.out (y) (A) (c))
                have HC := Lib.hid (set5_chg w5 w.heap.size (y) (A) (c))
                change bodyPost _ _ _ _ _ (set5 w5 w.heap.size (y) (A) (c))
                generalize set5 w5 w.heap.size (y) (A) (c) = w6 at *
                have q0 : w6.cell? ⟨w.heap.size, 0, none⟩ = some (.int .i64 (y).kind) := HB.out.cell 0
                have q1 : w6.cell? ⟨w.heap.size, 1, none⟩ = some (.int .i64 (y).a) := HB.out.cell 1
                have q2 : w6.cell? ⟨w.heap.size, 2, none⟩ = some (.int .i64 (y).b) := HB.out.cell 2
                have q3 : w6.cell? ⟨w.heap.size, 3, none⟩ = some (strV (y).key) := HB.out.cell 3
                have q4 : w6.cell? ⟨w.heap.size, 4, none⟩ = some (.slice (A) (y).data.length (c)) := HB.out.cell 4
                refine bodyPost_ret (v := .tuple #[stepV y A c, .int .i64 0]) ?_ rfl ⟨?_, (BW5.out.trans (HC.out.below (by have := BW5.out.size; omega) (fun k hk => by omega)))⟩
                · rw [results_cell_tmp rfl]
                  go_simp
                  rfl
                · rw [RES.out]
                  exact ⟨A, c, rfl, (DA.out.mono (fun k hk => show w.heap.size < k by omega)).chg HC.out (fun k hk => by omega) |>.mono (fun k hk => Nat.le_of_lt hk)⟩
        · have hq : ((n : Int) != 1 + (f.2.length : Int)) = true := by simp; omega
          have NF := Lib.hid (show stepFrom i (formsT.drop i) (wd :: ss) = stepFrom ((i + 1 : Nat) : Int) (formsT.drop (i + 1)) (wd :: ss) by rw [NS.out, if_neg (by unfold meets; rw [HN.out]; simp [hm])]; rfl)
          clear hm
          subst hw
          go_wp2_with fail
          go_roundw
          case rel => exact ⟨k + 1, i + 1, by rfl, by rw [HK.out], by omega, by rw [SF.out]; exact NF.out, B2.out⟩
          case measure => simp only [intOf]; omega
      · have NF := Lib.hid (show stepFrom i (formsT.drop i) (wd :: ss) = stepFrom ((i + 1 : Nat) : Int) (formsT.drop (i + 1)) (wd :: ss) by rw [NS.out, if_neg (by unfold meets; simp [hw])]; rfl)
        have hwb : (wd == f.1) = false := by simpa using hw
        have hwc : (wd != f.1) = true := by simpa using hw
        go_wp2_with fail
        go_roundw
        case rel => exact ⟨k + 1, i + 1, by rfl, by rw [HK.out], by omega, by rw [SF.out]; exact NF.out, B2.out⟩
        case measure => simp only [intOf]; omega
    · have hi19 : i = 19 := by omega
      have hk20 : k = 20 := by have := HK.out; omega
      have d1 : decide ((k : Int) ≤ 19) = false := decide_eq_false (by omega)
      have d2 : ¬ (k : Int) ≤ 19 := by omega
      have RES := Lib.hid (show stepT s = none by rw [SF.out, hi19]; rfl)
      obtain ⟨w5, rfl⟩ : ∃ x : World, x = wr := ⟨_, rfl⟩
      have B5 := Lib.hid BL.out
      clear hi19 hk20
      have Z5 := Lib.hid (Z1.out.below B5.out hw1)
      have BW5 := Lib.hid (show Below w.heap.size w w5 from B1.out.trans (B5.out.mono B1.out.size))
      have hz5 : w.heap.size < w5.heap.size := Z5.out.size
      have k0 : w5.cell? ⟨w.heap.size, 0, none⟩ = some (.int .i64 0) := Z5.out.cell 0
      have k1 : w5.cell? ⟨w.heap.size, 1, none⟩ = some (.int .i64 0) := Z5.out.cell 1
      have k2 : w5.cell? ⟨w.heap.size, 2, none⟩ = some (.int .i64 0) := Z5.out.cell 2
      have k3 : w5.cell? ⟨w.heap.size, 3, none⟩ = some (strV []) := Z5.out.cell 3
      have k4 : w5.cell? ⟨w.heap.size, 4, none⟩ = some (.slice none 0 0) := Z5.out.cell 4
      have f0 : w5.frozen? ⟨w.heap.size, 0, none⟩ = false := Z5.out.free 0
      have f1 : w5.frozen? ⟨w.heap.size, 1, none⟩ = false := Z5.out.free 1
      have f2 : w5.frozen? ⟨w.heap.size, 2, none⟩ = false := Z5.out.free 2
      have f3 : w5.frozen? ⟨w.heap.size, 3, none⟩ = false := Z5.out.free 3
      have f4 : w5.frozen? ⟨w.heap.size, 4, none⟩ = false := Z5.out.free 4
      go_wp2_with fail
      have HB := Lib.hid (set5_blk Z5.out (zeroS) (none) (0))
      have HC := Lib.hid (set5_chg w5 w.heap.size (zeroS) (none) (0))
      change bodyPost _ _ _ _ _ (set5 w5 w.heap.size (zeroS) (none) (0))
      generalize set5 w5 w.heap.size (zeroS) (none) (0) = w6 at *
      have q0 : w6.cell? ⟨w.heap.size, 0, none⟩ = some (.int .i64 (zeroS).kind) := HB.out.cell 0
      have q1 : w6.cell? ⟨w.heap.size, 1, none⟩ = some (.int .i64 (zeroS).a) := HB.out.cell 1
      have q2 : w6.cell? ⟨w.heap.size, 2, none⟩ = some (.int .i64 (zeroS).b) := HB.out.cell 2
      have q3 : w6.cell? ⟨w.heap.size, 3, none⟩ = some (strV (zeroS).key) := HB.out.cell 3
      have q4 : w6.cell? ⟨w.heap.size, 4, none⟩ = some (.slice (none) (zeroS).data.length (0)) := HB.out.cell 4
      refine bodyPost_ret (v := .tuple #[stepV zeroS none 0, .int .i64 15]) ?_ rfl ⟨?_, (BW5.out.trans (HC.out.below (by have := BW5.out.size; omega) (fun k hk => by omega)))⟩
      · rw [results_cell_tmp rfl]
        go_simp
        rfl
      · rw [RES.out]
        rfl
end
end Go.Proofs.YtkkmojbaoflafaaDoor
