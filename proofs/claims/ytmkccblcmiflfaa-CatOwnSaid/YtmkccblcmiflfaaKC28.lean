/- The law's fixed fact. No condition beyond those that each theorem states. -/
import Derived.Test.YtmkccblcmiflfaaKC26
import Derived.Test.YtmkccblcmiflfaaKC27
namespace Go.Proofs.Ytmkccblcmiflfaa
open Go.RowKit Go.Maps Go.WideMaps

/-- A note without bytes and places. -/
theorem noteIn_lit (w : World) (v : NoteV) (hd : v.data = []) (hp : v.places = []) (hk : v.key.length ≤ maxLen) (hs : v.sum.length ≤ maxLen) (h1 : (Lit.int .i64 v.gen).wf = true) (h2 : (Lit.int .i64 v.cart).wf = true) (h3 : (Lit.int .i64 v.size).wf = true) :
    NoteIn w v none 0 0 none 0 0 :=
  ⟨⟨Nat.le_refl _, by simp [maxLen], fun _ => ⟨rfl, rfl⟩⟩, by rw [hd]; exact BytesIn.empty _ _, ⟨Nat.le_refl _, by simp [maxLen], fun _ => ⟨rfl, rfl⟩⟩, ⟨by rw [hp]; rfl, by rw [hp]; exact .inl ⟨rfl, rfl⟩⟩, hk, hs, h1, h2, h3⟩
theorem NSt.get {w0 w : World} {v : Value} {L : List NoteV} (h : NSt w0 w v L) {B : Option Addr} {c : Nat} (hv : v = .slice B L.length c) {j : Nat} {x : NoteV} (hx : L[j]? = some x) :
    ∃ g D dc Q qc, B = some ⟨g, 0, none⟩ ∧ g < w.heap.size ∧ ∀ t u, (NoteP.cells ⟨x, D, dc, Q, qc⟩)[t]? = some u → w.cell? ⟨g, j * 8 + t, none⟩ = some u := by
  obtain ⟨NP, rfl, h2, h3, h4⟩ := h
  subst hv
  rw [List.getElem?_map] at hx
  cases hr : NP[j]? with
  | none => rw [hr] at hx; cases hx
  | some r =>
    rw [hr] at hx
    injection hx with hx
    subst hx
    have hl : 0 < (NP.map (·.v)).length := by
      rw [List.length_map]
      have := (List.getElem?_eq_some_iff.1 hr).1
      omega
    rcases h2.2 with ⟨_, h0⟩ | ⟨g, cap, cur, e, _⟩
    · omega
    · cases e
      have hrow := RowAt.of_own h2
      refine ⟨g, r.D, r.dc, r.Q, r.qc, rfl, hrow.size, fun t u hu => hrow.cell ?_⟩
      have ht : t < 8 := by
        have := (List.getElem?_eq_some_iff.1 hu).1
        simpa [NoteP.cells] using this
      rw [notePVals_get hr t ht]
      exact hu
def awA : NoteV := ⟨1, [97], 0, 0, [], [], 0, []⟩
def awB : NoteV := ⟨4, [97], 1, 0, [], [], 0, []⟩
def awC : NoteV := ⟨3, [97], 2, 0, [], [], 0, []⟩
def awD : NoteV := ⟨3, [97], 1, 0, [], [], 0, []⟩
def cA : CV := ⟨[([97], [])], [], [], [], [], 0⟩
def cB : CV := ⟨[([97], [])], [], [([97], 1)], [], [], 1⟩
def cC : CV := ⟨[], [], [], [([97], 2)], [], 2⟩
def cD : CV := ⟨[], [], [], [], [], 1⟩
theorem aw1 : applyC newC awA = (0, cA) := by rfl
theorem aw2 : applyC cA awB = (0, cB) := by rfl
theorem aw3 : applyC cB awC = (0, cC) := by rfl
theorem aw4 : applyC cA awD = (0, cD) := by rfl
theorem aw5 : notesC cC = [genN ([], 2), tombN ([97], 2)] := by
  have h1 : entsC cC = [] := by simp [entsC, sortS, cC]
  have h2 : sortI cC.retired = [] := by simp [sortI, cC]
  unfold notesC
  rw [h1, h2]
  rfl
theorem CatPost.next {F : Nat → Prop} {p N : Nat} {C D : CV} {v : NoteV} {i : Int} {w w' : World} {e : Ending} (h : CatPost F p N (applyC C v) w e w') (ha : applyC C v = (i, D)) :
    e = .returned (.int .i64 i) ∧ ∃ F', CatAt F' w' p N D ∧ (∀ k, F' k → k < w'.heap.size ∧ (F k ∨ w.heap.size ≤ k)) ∧ Chg F w w' := by
  rw [ha] at h
  obtain ⟨h1, F', h2, h3, h4⟩ := h
  exact ⟨h1, F', h2, h4, h3⟩
section
set_option maxHeartbeats 8000000
set_option maxRecDepth 100000
theorem awake13 (w : World) : Calls Try.prog 10 #[] w fun e w' => e = .returned (.bool true) ∧ Below w.heap.size w w' := by
  have n0 : ∀ w, NoteIn w awA none 0 0 none 0 0 := fun w => noteIn_lit w _ rfl rfl (by decide) (by decide) (by decide) (by decide) (by decide)
  have n1 : ∀ w, NoteIn w awB none 0 0 none 0 0 := fun w => noteIn_lit w _ rfl rfl (by decide) (by decide) (by decide) (by decide) (by decide)
  have n2 : ∀ w, NoteIn w awC none 0 0 none 0 0 := fun w => noteIn_lit w _ rfl rfl (by decide) (by decide) (by decide) (by decide) (by decide)
  have n3 : ∀ w, NoteIn w awD none 0 0 none 0 0 := fun w => noteIn_lit w _ rfl rfl (by decide) (by decide) (by decide) (by decide) (by decide)
  go_enter Try.func10, Try.ntmps10
  go_wp2_with fail
  refine (cNew _).mono ?_
  rintro e w1 ⟨p, rfl, hp, hca, hb1⟩
  have C1 := Lib.hid hca
  have B1 := Lib.hid hb1
  clear hca hb1
  go_wp2_with fail
  refine (cApply _ p 0 newC awA none 0 0 none 0 0 _ C1.out (by omega) (n0 _) (fun h => by omega)).mono ?_
  intro e w2 hp2
  obtain ⟨rfl, F2, hc2, hf2, hg2⟩ := hp2.next aw1
  have C2 := Lib.hid hc2
  have G2 := Lib.hid (show Below w.heap.size w w2 from B1.out.trans (hg2.below B1.out.size (fun i hi => hi)))
  have FF2 := Lib.hid (show ∀ k, F2 k → w.heap.size ≤ k ∧ k < w2.heap.size from fun k hk => ⟨(hf2 k hk).2.elim id (fun h => Nat.le_trans B1.out.size h), (hf2 k hk).1⟩)
  clear hp2 hc2 hf2 hg2
  go_wp2_with fail
  refine (cApply _ p 1 cA awB none 0 0 none 0 0 _ C2.out (by omega) (n1 _) (fun h => by omega)).mono ?_
  intro e w3 hp3
  obtain ⟨rfl, F3, hc3, hf3, hg3⟩ := hp3.next aw2
  have C3 := Lib.hid hc3
  have G3 := Lib.hid (show Below w.heap.size w w3 from G2.out.trans (hg3.below G2.out.size (fun i hi => (FF2.out i hi).1)))
  have FF3 := Lib.hid (show ∀ k, F3 k → w.heap.size ≤ k ∧ k < w3.heap.size from fun k hk => ⟨(hf3 k hk).2.elim (fun h => (FF2.out k h).1) (fun h => Nat.le_trans G2.out.size h), (hf3 k hk).1⟩)
  clear hp3 hc3 hf3 hg3
  go_wp2_with fail
  refine (cApply _ p 2 cB awC none 0 0 none 0 0 _ C3.out (by omega) (n2 _) (fun h => by omega)).mono ?_
  intro e w4 hp4
  obtain ⟨rfl, F4, hc4, hf4, hg4⟩ := hp4.next aw3
  have C4 := Lib.hid hc4
  have G4 := Lib.hid (show Below w.heap.size w w4 from G3.out.trans (hg4.below G3.out.size (fun i hi => (FF3.out i hi).1)))
  have FF4 := Lib.hid (show ∀ k, F4 k → k < w4.heap.size from fun k hk => (hf4 k hk).1)
  clear hp4 hc4 hf4 hg4
  go_wp2_with fail
  refine (cNotes F4 p 3 cC _ C4.out (by omega)).mono ?_
  rw [aw5]
  rintro e w5 ⟨LB, rfl, ⟨lc, hst⟩, hb5⟩
  obtain ⟨lg, D0, dc0, Q0, qc0, rfl, hlg, hlc⟩ := hst.get rfl (j := 0) rfl
  have l0 : w5.cell? ⟨lg, 0, none⟩ = some (.int .i64 4) := hlc 0 _ rfl
  have l2 : w5.cell? ⟨lg, 2, none⟩ = some (.int .i64 2) := hlc 2 _ rfl
  have B5 := Lib.hid hb5
  clear hlc hst hb5
  go_wp2_with fail
  refine (cTombs F4 p 3 cC _ (C4.out.below B5.out) (by omega)).mono ?_
  rintro e w6 ⟨tv, rfl, ho6, hb6⟩
  obtain ⟨tg, rfl, htg⟩ : ∃ g, tv = .slice (some ⟨g, 0, none⟩) 1 1 ∧ RowAt w6 g 26 (tombVals cC.tombs) := by
    rcases ho6 with ⟨_, h, _⟩ | ⟨g, h1, _, h3⟩
    · exact absurd h (by decide)
    · exact ⟨g, h1, h3⟩
  have t1 : w6.cell? ⟨tg, 1, none⟩ = some (.string ⟨#[97]⟩) := htg.cell (i := 1) rfl
  have t2 : w6.cell? ⟨tg, 2, none⟩ = some (.int .i64 2) := htg.cell (i := 2) rfl
  have t6 : w6.cell? ⟨tg, 6, none⟩ = some (.int .i64 1) := htg.cell (i := 6) rfl
  have B6 := Lib.hid hb6
  have hlg6 : lg < w6.heap.size := Nat.lt_of_lt_of_le hlg hb6.size
  have htg6 : tg < w6.heap.size := htg.size
  have m0 : w6.cell? ⟨lg, 0, none⟩ = some (.int .i64 4) := (hb6.cell (p := ⟨lg, 0, none⟩) hlg).trans l0
  have m2 : w6.cell? ⟨lg, 2, none⟩ = some (.int .i64 2) := (hb6.cell (p := ⟨lg, 2, none⟩) hlg).trans l2
  have C6 := Lib.hid ((C4.out.below B5.out).below B6.out)
  have h46 : w4.heap.size ≤ w6.heap.size := Nat.le_trans B5.out.size B6.out.size
  have G6 := Lib.hid (show Below w.heap.size w w6 from (G4.out.trans (B5.out.mono G4.out.size)).trans (B6.out.mono (Nat.le_trans G4.out.size B5.out.size)))
  clear ho6 htg hb6 l0 l2
  go_wp2_with fail
  refine (cNew _).mono ?_
  rintro e w7 ⟨p2, rfl, hp2, hca7, hb7⟩
  have D7 := Lib.hid hca7
  have B7 := Lib.hid hb7
  clear hca7 hb7
  go_wp2_with fail
  refine (cApply _ p2 0 newC awA none 0 0 none 0 0 _ D7.out (by omega) (n0 _) (fun h => by omega)).mono ?_
  intro e w8 hp8
  obtain ⟨rfl, F8, hc8, hf8, hg8⟩ := hp8.next aw1
  have D8 := Lib.hid hc8
  have G8 := Lib.hid (show Below w6.heap.size w6 w8 from B7.out.trans (hg8.below B7.out.size (fun i hi => hi)))
  have FF8 := Lib.hid (show ∀ k, F8 k → w6.heap.size ≤ k ∧ k < w8.heap.size from fun k hk => ⟨(hf8 k hk).2.elim id (fun h => Nat.le_trans B7.out.size h), (hf8 k hk).1⟩)
  clear hp8 hc8 hf8 hg8
  go_wp2_with fail
  refine (cHas F8 p2 1 cA [97] _ D8.out (by decide)).mono ?_
  rintro e w9 ⟨rfl, hb9⟩
  have B9 := Lib.hid hb9
  have hh1 : hasC cA [97] = true := by rfl
  rw [hh1]
  clear hb9
  go_wp2_with fail
  refine (cStaged F8 p2 1 cA _ (D8.out.below B9.out) (by omega)).mono ?_
  rintro e w10 ⟨sv, rfl, ho10, hb10⟩
  obtain ⟨sa, rfl⟩ : ∃ A, sv = .slice A 1 1 := by
    rcases ho10 with ⟨_, h, _⟩ | ⟨g, h1, _⟩
    · exact absurd h (by decide)
    · exact ⟨_, h1⟩
  have B10 := Lib.hid hb10
  have G10 := Lib.hid (show Below w6.heap.size w6 w10 from (G8.out.trans (B9.out.mono G8.out.size)).trans (B10.out.mono (Nat.le_trans G8.out.size B9.out.size)))
  have FF10 := Lib.hid (show w8.heap.size ≤ w10.heap.size from Nat.le_trans B9.out.size B10.out.size)
  clear ho10 hb10
  go_wp2_with fail
  refine (cApply _ p2 1 cA awD none 0 0 none 0 0 _ ((D8.out.below B9.out).below B10.out) (by omega) (n3 _) (fun h => by omega)).mono ?_
  intro e w11 hp11
  obtain ⟨rfl, F11, hc11, hf11, hg11⟩ := hp11.next aw4
  have D11 := Lib.hid hc11
  have hb11 : Below w6.heap.size w6 w11 := G10.out.trans (hg11.below G10.out.size (fun i hi => (FF8.out i hi).1))
  have G11 := Lib.hid hb11
  have u1 : w11.cell? ⟨tg, 1, none⟩ = some (.string ⟨#[97]⟩) := (hb11.cell (p := ⟨tg, 1, none⟩) htg6).trans t1
  have u2 : w11.cell? ⟨tg, 2, none⟩ = some (.int .i64 2) := (hb11.cell (p := ⟨tg, 2, none⟩) htg6).trans t2
  have u6 : w11.cell? ⟨tg, 6, none⟩ = some (.int .i64 1) := (hb11.cell (p := ⟨tg, 6, none⟩) htg6).trans t6
  have o0 : w11.cell? ⟨lg, 0, none⟩ = some (.int .i64 4) := (hb11.cell (p := ⟨lg, 0, none⟩) hlg6).trans m0
  have o2 : w11.cell? ⟨lg, 2, none⟩ = some (.int .i64 2) := (hb11.cell (p := ⟨lg, 2, none⟩) hlg6).trans m2
  have C11 := Lib.hid (C6.out.below hb11)
  clear hp11 hc11 hf11 hg11 hb11
  go_wp2_with fail
  refine (cGen F4 p 3 cC _ C11.out).mono ?_
  rintro e w12 ⟨rfl, rfl⟩
  have hg2 : cC.gen = 2 := rfl
  rw [hg2]
  go_wp2_with fail
  refine (cHas F4 p 3 cC [97] _ C11.out (by decide)).mono ?_
  rintro e w13 ⟨rfl, hb13⟩
  have B13 := Lib.hid hb13
  have hh2 : hasC cC [97] = false := by rfl
  rw [hh2]
  clear hb13
  go_wp2_with fail
  refine (cTombs F11 p2 2 cD _ (D11.out.below B13.out) (by omega)).mono ?_
  rintro e w14 ⟨tv2, rfl, ho14, hb14⟩
  obtain ⟨ta, rfl⟩ : ∃ A, tv2 = .slice A 0 0 := by
    rcases ho14 with ⟨h, _⟩ | ⟨g, h1, _⟩
    · exact ⟨_, h⟩
    · exact ⟨_, h1⟩
  have B14 := Lib.hid hb14
  clear ho14 hb14
  go_wp2_with fail
  refine (cGen F11 p2 2 cD _ ((D11.out.below B13.out).below B14.out)).mono ?_
  rintro e w15 ⟨rfl, rfl⟩
  have hg3 : cD.gen = 1 := rfl
  rw [hg3]
  go_wp2_with fail
  go_ret
  exact ⟨rfl, ((G6.out.trans (G11.out.mono G6.out.size)).trans (B13.out.mono (Nat.le_trans G6.out.size G11.out.size))).trans (B14.out.mono (Nat.le_trans (Nat.le_trans G6.out.size G11.out.size) B13.out.size))⟩
end
end Go.Proofs.Ytmkccblcmiflfaa
