/- Texts joined: KC11, KP1, KC27, KC28, KP2, KP3, KP5, KC31, KP6, KP8, KP9, KC35, KR1, KR2, KR3, KR4, KP10. No condition beyond those that each theorem states. -/
import Derived.Test.YtmkccblcmiflfaaGreatPK2
import Derived.Test.YtmkccblcmiflfaaGreatPK3
import Derived.Test.YtmkccblcmiflfaaGreatPK5
import Derived.Test.YtmkccblcmiflfaaGreatPK0
import Derived.Sort.Walk0
namespace Go.Proofs.YtmkccblcmiflfaaGreat
open Go.RowKit Go.Maps Go.WideMaps

def putR (L : List Int) (n : Int) : List Int := (L.filter fun x => !decide (x = n)) ++ [n]
def retireC (C : CV) (v : NoteV) : Int × CV := if v.cart < 0 ∨ 32 ≤ v.cart then (12, C) else (0, { C with retired := putR C.retired v.cart })
def applyC (C : CV) (v : NoteV) : Int × CV :=
  if v.kind = 1 then putC C v else if v.kind = 2 then placedC C v else if v.kind = 3 then goneC C v else if v.kind = 4 then beginC C v else if v.kind = 5 then retireC C v else if v.kind = 6 then tombC C v else (12, C)
theorem ret_put (L : List Int) (n : Int) : putL (retVals L) n (.agg #[]) = retVals (putR L n) := by
  unfold putL delL retVals putR
  rw [List.map_append, List.filter_map]
  rfl
theorem CatPost.of_below {F : Nat → Prop} {p N : Nat} {r : Int × CV} {w w1 w' : World} {e : Ending} (hb : Below w.heap.size w w1) (h : CatPost F p N r w1 e w') : CatPost F p N r w e w' := by
  obtain ⟨h1, F', h2, h3⟩ := h
  have hz := hb.size
  exact ⟨h1, F', h2, ((Chg.of_below F hb).trans h3.1), fun k hk => ⟨(h3.2 k hk).1, (h3.2 k hk).2.imp id (fun h => by omega)⟩⟩
theorem retire_fin {F : Nat → Prop} {w w1 w2 : World} {p N : Nat} {C : CV} {n : Int} {sv tv : Value} {SR : List BlobR} {ER : List EntR} {be bb br : Nat} (h : CatR F w1 p N C sv tv SR ER be bb br) (hb : Below w.heap.size w w1) (hg : w1.grownBy w2 (some br))
    (hp : Blk w2 p 68 #[sv, .map (some be), .map (some bb), tv, .map (some br), .int .i64 C.gen]) (hm : MapAt ikey (.agg #[]) w2 br (N + 1) (putL (retVals C.retired) n (.agg #[]))) (h0 : 0 ≤ n) (h1 : n ≤ 31) :
    CatPost F p (N + 1) (0, { C with retired := putR C.retired n }) w (.returned (.int .i64 0)) w2 := by
  have hc : Chg (fun k => k = br) w1 w2 := (Chg.refl (fun k => k = br) w1).grown hg (fun g e => .inl (Option.some.inj e).symm)
  have hcT : Chg (CatTurns p sv tv be bb br) w1 w2 := hc.mono (fun k e => .inr (.inr (.inr (.inr (.inr e)))))
  exact h.post hb hcT (h.build (C' := { C with retired := putR C.retired n }) hcT hp (h.stg_same hc (fun g hg => (h.stg_ne hg).2.2.2.2)) h.stgs (fun r hr => .inl hr) ((h.ents.of_eq (hc.block be h.ents.lt h.neq.2.1)).mono (Nat.le_succ _)) h.entr (fun r hr => .inl hr)
    ((h.begs.of_eq (hc.block bb h.begs.lt h.neq.2.2)).mono (Nat.le_succ _)) (h.tmb_same hc (fun g hg => (h.tmb_ne hg).2.2.2.2)) (by show MapAt ikey _ w2 br _ (retVals (putR C.retired n)); rw [← ret_put]; exact hm)
    { h.wf with
      staged := Nat.le_succ_of_le h.wf.staged
      tombs := Nat.le_succ_of_le h.wf.tombs
      carts := fun x hx => by
        rcases List.mem_append.1 hx with hx | hx
        · exact h.wf.carts x (List.mem_filter.1 hx).1
        · have e : x = n := by simpa using hx
          subst e
          exact ⟨h0, h1⟩ }) 0
section
set_option maxHeartbeats 4000000
set_option maxRecDepth 8000
theorem cApply (F : Nat → Prop) (p N : Nat) (C : CV) (v : NoteV) (D : Option Addr) (dn dc : Nat) (Q : Option Addr) (qn qc : Nat) (w : World) (h : CatAt F w p N C) (hN : N ≤ 100000) (hin : NoteIn w v D dn dc Q qn qc) (hap : 0 < qn → ∀ b off, Q = some ⟨b, off, none⟩ → ¬ F b) :
    Calls Tryz.prog 10 #[.pointer (some ⟨p, 0, none⟩), noteAgg v D dn dc Q qn qc] w (CatPost F p (N + 1) (applyC C v) w) := by
  have H := Lib.hid h
  have HAP := Lib.hid hap
  obtain ⟨w1, hw1⟩ : ∃ w1, w1 = w.alloc (.cells (noteCells v D dn dc Q qn qc) 32) := ⟨_, rfl⟩
  have hb1 : Below w.heap.size w w1 := by rw [hw1]; exact (Below.refl _ _).alloc (Nat.le_refl _) _
  have hB1 : Blk w1 w.heap.size 32 (noteCells v D dn dc Q qn qc) := by rw [hw1]; exact Blk.made w _ _
  have W1 := Lib.hid hw1
  have HB1 := Lib.hid hb1
  have BN1 := Lib.hid hB1
  have HI1 := Lib.hid (hin.below hb1)
  have H1 := Lib.hid (h.below hb1)
  have HCA := Lib.hid hin.cart
  have q0 : w1.cell? ⟨w.heap.size, 0, none⟩ = some (.int .i64 v.kind) := hB1.cell 0
  have q1 : w1.cell? ⟨w.heap.size, 1, none⟩ = some (encStr v.key) := hB1.cell 1
  have q2 : w1.cell? ⟨w.heap.size, 2, none⟩ = some (.int .i64 v.gen) := hB1.cell 2
  have q3 : w1.cell? ⟨w.heap.size, 3, none⟩ = some (.int .i64 v.cart) := hB1.cell 3
  have q4 : w1.cell? ⟨w.heap.size, 4, none⟩ = some (.slice D dn dc) := hB1.cell 4
  have q5 : w1.cell? ⟨w.heap.size, 5, none⟩ = some (encStr v.sum) := hB1.cell 5
  have q6 : w1.cell? ⟨w.heap.size, 6, none⟩ = some (.int .i64 v.size) := hB1.cell 6
  have q7 : w1.cell? ⟨w.heap.size, 7, none⟩ = some (.slice Q qn qc) := hB1.cell 7
  clear hin hap h hb1 hB1 hw1
  unfold noteAgg
  go_enter Tryz.func10, Tryz.ntmps10
  go_upto_region 1 with fail
  rw [show w.alloc (.cells #[.int .i64 v.kind, .string ⟨v.key.toArray⟩, .int .i64 v.gen, .int .i64 v.cart, .slice D dn dc, .string ⟨v.sum.toArray⟩, .int .i64 v.size, .slice Q qn qc] 32) = w1 from W1.out.symm]
  by_cases k1 : v.kind = 1
  case pos =>
    have e1 : (v.kind == 1) = true := by simpa using k1
    have HE := Lib.hid (show applyC C v = putC C v by unfold applyC; rw [if_pos k1])
    clear k1
    go_wp2_with (go_at_call 36; refine (cPut F p N C v D dn dc Q qn qc _ H1.out hN HI1.out).mono ?_; intro e w2 hp; have hp2 := hp.of_below HB1.out; obtain ⟨rfl, hq⟩ := hp2; have HQ := Lib.hid hq; clear hp hq)
    go_ret
    rw [HE.out]
    exact ⟨rfl, HQ.out⟩
  have e1 : (v.kind == 1) = false := by simpa using k1
  by_cases k2 : v.kind = 2
  case pos =>
    have e2 : (v.kind == 2) = true := by simpa using k2
    have HE := Lib.hid (show applyC C v = placedC C v by unfold applyC; rw [if_neg k1, if_pos k2])
    clear k2
    go_wp2_with (go_at_call 37; refine (cPlaced F p N C v D dn dc Q qn qc _ H1.out hN HI1.out HAP.out).mono ?_; intro e w2 hp; have hp2 := hp.of_below HB1.out; obtain ⟨rfl, hq⟩ := hp2; have HQ := Lib.hid hq; clear hp hq)
    go_ret
    rw [HE.out]
    exact ⟨rfl, HQ.out⟩
  have e2 : (v.kind == 2) = false := by simpa using k2
  by_cases k3 : v.kind = 3
  case pos =>
    have e3 : (v.kind == 3) = true := by simpa using k3
    have HE := Lib.hid (show applyC C v = goneC C v by unfold applyC; rw [if_neg k1, if_neg k2, if_pos k3])
    clear k3
    go_wp2_with (go_at_call 38; refine (cGone F p N C v D dn dc Q qn qc _ H1.out hN HI1.out).mono ?_; intro e w2 hp; have hp2 := hp.of_below HB1.out; obtain ⟨rfl, hq⟩ := hp2; have HQ := Lib.hid hq; clear hp hq)
    go_ret
    rw [HE.out]
    exact ⟨rfl, HQ.out⟩
  have e3 : (v.kind == 3) = false := by simpa using k3
  by_cases k4 : v.kind = 4
  case pos =>
    have e4 : (v.kind == 4) = true := by simpa using k4
    have HE := Lib.hid (show applyC C v = beginC C v by unfold applyC; rw [if_neg k1, if_neg k2, if_neg k3, if_pos k4])
    clear k4
    go_wp2_with (go_at_call 39; refine (cBegin F p N C v D dn dc Q qn qc _ H1.out hN HI1.out).mono ?_; intro e w2 hp; have hp2 := hp.of_below HB1.out; obtain ⟨rfl, hq⟩ := hp2; have HQ := Lib.hid hq; clear hp hq)
    go_ret
    rw [HE.out]
    exact ⟨rfl, HQ.out⟩
  have e4 : (v.kind == 4) = false := by simpa using k4
  by_cases k5 : v.kind = 5
  case pos =>
    have e5 : (v.kind == 5) = true := by simpa using k5
    have HA := Lib.hid (show applyC C v = retireC C v by unfold applyC; rw [if_neg k1, if_neg k2, if_neg k3, if_neg k4, if_pos k5])
    clear k5
    by_cases c1 : v.cart < 0
    case pos =>
      have d1 : decide (v.cart < 0) = true := by simpa using c1
      have HE := Lib.hid (HA.out.trans (show retireC C v = (12, C) from if_pos (.inl c1)))
      clear c1
      go_wp2_with fail
      go_ret
      rw [HE.out]
      exact CatPost.same H.out (Nat.le_succ _) HB1.out
    have d1 : decide (v.cart < 0) = false := by simpa using c1
    by_cases c2 : 32 ≤ v.cart
    case pos =>
      have d2 : decide (32 ≤ v.cart) = true := by simpa using c2
      have HE := Lib.hid (HA.out.trans (show retireC C v = (12, C) from if_pos (.inr c2)))
      clear c2
      go_wp2_with fail
      go_ret
      rw [HE.out]
      exact CatPost.same H.out (Nat.le_succ _) HB1.out
    have d2 : decide (32 ≤ v.cart) = false := by simpa using c2
    have HE := Lib.hid (HA.out.trans (show retireC C v = (0, { C with retired := putR C.retired v.cart }) from if_neg (by omega)))
    obtain ⟨sv, tv, SR, ER, be, bb, br, h1⟩ := H1.out
    have R1 := Lib.hid h1
    have hm := h1.map_ne
    have x0 : w1.cell? ⟨p, 4, none⟩ = some (.map (some br)) := h1.blk.cell 4
    obtain ⟨w2, hry, hmy, hgy⟩ := (h1.rets.of_eq (w' := w1.drew) rfl).store (t := 65) (e := 76) Tryz.underlying65 (by simp only [maxLen]; omega) (k := v.cart) HCA.out (.agg #[])
    have hry' : (Instr.mapUpdate 65 (.map (some br)) (.int .i64 v.cart) (.agg #[])).run Tryz.prog w1.drew = .ok () w2 := hry
    have BP2 := Lib.hid (Blk.grown (w := w1.drew) h1.blk hgy (fun e => hm.2.2 (Option.some.inj e).symm))
    have BN2 := Lib.hid (Blk.grown (w := w1.drew) BN1.out hgy (fun e => blk_apart BN1.out R1.out.rets (Option.some.inj e).symm))
    have y0 : w2.cell? ⟨p, 4, none⟩ = some (.map (some br)) := BP2.out.cell 4
    have y3 : w2.cell? ⟨w.heap.size, 3, none⟩ = some (.int .i64 v.cart) := BN2.out.cell 3
    have M2 := Lib.hid hmy
    have G2 := Lib.hid (show w1.grownBy w2 (some br) from ⟨hgy.os, hgy.tape, hgy.output, hgy.size, hgy.block⟩)
    clear h1 hry hmy hgy
    go_upto_region 15 with fail
    refine wp_region_held_drew (S := (fun w' => w'.cell? ⟨p, 4, none⟩ = some (.map (some br)) ∧ w'.cell? ⟨w.heap.size, 3, none⟩ = some (.int .i64 v.cart))) (by kernel_rfl) ⟨x0, q3⟩ (fun hHeld => ?_)
    refine tk (i := 0) (v := ?vAn10) rfl ?hyAn10 ?restAn10
    case hyAn10 => (intro w hSw; (try dsimp only at hSw); go_simp <;> with_reducible rfl)
    try simp only [Act.put, pt1, pt2, pt3]
    refine tk (i := 1) (v := ?vAn11) rfl ?hyAn11 ?restAn11
    case hyAn11 => (intro w hSw; (try dsimp only at hSw); go_simp <;> with_reducible rfl)
    try simp only [Act.put, pt1, pt2, pt3]
    refine tk (i := 2) (v := ?vAn12) rfl ?hyAn12 ?restAn12
    case hyAn12 => (intro w hSw; (try dsimp only at hSw); go_simp <;> with_reducible rfl)
    try simp only [Act.put, pt1, pt2, pt3]
    refine tk (i := 3) (v := ?vAn13) rfl ?hyAn13 ?restAn13
    case hyAn13 => (intro w hSw; (try dsimp only at hSw); go_simp <;> with_reducible rfl)
    try simp only [Act.put, pt1, pt2, pt3]
    refine tk (i := 4) (v := ?vAn14) rfl ?hyAn14 ?restAn14
    case hyAn14 => (intro w hSw; (try dsimp only at hSw); go_simp <;> with_reducible rfl)
    try simp only [Act.put, pt1, pt2, pt3]
    refine tk (i := 5) (v := ?vAn15) rfl ?hyAn15 ?restAn15
    case hyAn15 => (intro w hSw; (try dsimp only at hSw); go_simp <;> with_reducible rfl)
    try simp only [Act.put, pt1, pt2, pt3]
    refine tk (i := 6) (v := ?vAn16) rfl ?hyAn16 ?restAn16
    case hyAn16 => (intro w hSw; (try dsimp only at hSw); go_simp <;> with_reducible rfl)
    try simp only [Act.put, pt1, pt2, pt3]
    refine wpAnyH_ready (rs := [7]) (by kernel_rfl) (by simp) ?_
    refine AllReadyH.cons rfl (fun K hK => ?_) AllReadyH.nil
    go_simp
    clear hHeld
    refine hK.out _ _ ⟨y0, y3⟩ (fun hHeld => ?_)
    clear hK K
    refine wpAnyH_done (by kernel_rfl) ?_ _
    go_wp2_with fail
    go_ret
    rw [HE.out]
    exact retire_fin R1.out HB1.out G2.out BP2.out M2.out (by omega) (by omega)
  have e5 : (v.kind == 5) = false := by simpa using k5
  by_cases k6 : v.kind = 6
  case pos =>
    have e6 : (v.kind == 6) = true := by simpa using k6
    have HE := Lib.hid (show applyC C v = tombC C v by unfold applyC; rw [if_neg k1, if_neg k2, if_neg k3, if_neg k4, if_neg k5, if_pos k6])
    clear k6
    go_wp2_with (go_at_call 40; refine (cTomb F p N C v D dn dc Q qn qc _ H1.out hN HI1.out).mono ?_; intro e w2 hp; have hp2 := hp.of_below HB1.out; obtain ⟨rfl, hq⟩ := hp2; have HQ := Lib.hid hq; clear hp hq)
    go_ret
    rw [HE.out]
    exact ⟨rfl, HQ.out⟩
  have e6 : (v.kind == 6) = false := by simpa using k6
  have HE := Lib.hid (show applyC C v = (12, C) by unfold applyC; rw [if_neg k1, if_neg k2, if_neg k3, if_neg k4, if_neg k5, if_neg k6])
  clear k1 k2 k3 k4 k5 k6
  go_wp2_with fail
  go_ret
  rw [HE.out]
  exact CatPost.same H.out (Nat.le_succ _) HB1.out
end
end Go.Proofs.YtmkccblcmiflfaaGreat

namespace Go.Proofs.YtmkccblcmiflfaaGreat
open Go.RowKit Go.Maps Go.WideMaps

theorem laterB_lt {C : CV} {g : Int} (h : ¬ laterB C g = false) : C.gen < g ∧ g ≤ 1099511627776 := by
  unfold laterB at h
  simpa using h
end Go.Proofs.YtmkccblcmiflfaaGreat

namespace Go.Proofs.YtmkccblcmiflfaaGreat
open Go.RowKit Go.Maps Go.WideMaps

/-- A note that comes in. -/
structure NoteA where
  v : NoteV
  D : Option Addr
  dn : Nat
  dc : Nat
  Q : Option Addr
  qn : Nat
  qc : Nat
def NoteA.cells (r : NoteA) : List Value := [.int .i64 r.v.kind, encStr r.v.key, .int .i64 r.v.gen, .int .i64 r.v.cart, .slice r.D r.dn r.dc, encStr r.v.sum, .int .i64 r.v.size, .slice r.Q r.qn r.qc]
structure NoteOk (w : World) (r : NoteA) : Prop where
  is : NoteIn w r.v r.D r.dn r.dc r.Q r.qn r.qc
  old : 0 < r.qn → ∀ b off, r.Q = some ⟨b, off, none⟩ → b < w.heap.size
theorem NoteOk.below {w w' : World} {r : NoteA} (h : NoteOk w r) (hb : Below w.heap.size w w') : NoteOk w' r := ⟨h.is.below hb, fun h0 b off e => Nat.lt_of_lt_of_le (h.old h0 b off e) hb.size⟩
def NotesIn (w : World) (A : Option Addr) (n : Nat) (f : Nat → NoteA) : Prop :=
  n = 0 ∨ ∃ b off, A = some ⟨b, off, none⟩ ∧ b < w.heap.size ∧ ∀ i, i < n → NoteOk w (f i) ∧ ∀ t u, (f i).cells[t]? = some u → w.cell? ⟨b, off + i * 8 + t, none⟩ = some u
section
set_option maxHeartbeats 4000000
set_option maxRecDepth 8000
end
end Go.Proofs.YtmkccblcmiflfaaGreat

namespace Go.Proofs.YtmkccblcmiflfaaGreat
open Go.RowKit Go.Maps Go.WideMaps

/-- A note without bytes and places. -/
theorem noteIn_lit (w : World) (v : NoteV) (hd : v.data = []) (hp : v.places = []) (hk : v.key.length ≤ maxLen) (hs : v.sum.length ≤ maxLen) (h1 : (Lit.int .i64 v.gen).wf = true) (h2 : (Lit.int .i64 v.cart).wf = true) (h3 : (Lit.int .i64 v.size).wf = true) :
    NoteIn w v none 0 0 none 0 0 :=
  ⟨⟨Nat.le_refl _, by simp [maxLen], fun _ => ⟨rfl, rfl⟩⟩, by rw [hd]; exact BytesIn.empty _ _, ⟨Nat.le_refl _, by simp [maxLen], fun _ => ⟨rfl, rfl⟩⟩, ⟨by rw [hp]; rfl, by rw [hp]; exact .inl ⟨rfl, rfl⟩⟩, hk, hs, h1, h2, h3⟩
theorem NSt.get {w0 w : World} {v : Value} {L : List NoteV} (h : NSt w0 w v L) {B : Option Addr} {c : Nat} (hv : v = .slice B L.length c) {j : Nat} {x : NoteV} (hx : L[j]? = some x) :
    ∃ g D dc Q qc, B = some ⟨g, 0, none⟩ ∧ g < w.heap.size ∧ ∀ t u, (NoteP.cells ⟨x, D, dc, Q, qc⟩)[t]? = some u → w.cell? ⟨g, j * 8 + t, none⟩ = some u := by
  obtain ⟨NP, rfl, h2, h3, h4⟩ := h
  subst hv
  rw [List.getElem?_map] at hx
  cases hr : NP[j]? with
  | none => rw [hr] at hx; cases hx
  | some r =>
    rw [hr] at hx
    injection hx with hx
    subst hx
    have hl : 0 < (NP.map (·.v)).length := by
      rw [List.length_map]
      have := (List.getElem?_eq_some_iff.1 hr).1
      omega
    rcases h2.2 with ⟨_, h0⟩ | ⟨g, cap, cur, e, _⟩
    · omega
    · cases e
      have hrow := RowAt.of_own h2
      refine ⟨g, r.D, r.dc, r.Q, r.qc, rfl, hrow.size, fun t u hu => hrow.cell ?_⟩
      have ht : t < 8 := by
        have := (List.getElem?_eq_some_iff.1 hu).1
        simpa [NoteP.cells] using this
      rw [notePVals_get hr t ht]
      exact hu
def awA : NoteV := ⟨1, [97], 0, 0, [], [], 0, []⟩
def awB : NoteV := ⟨4, [97], 1, 0, [], [], 0, []⟩
def awC : NoteV := ⟨3, [97], 2, 0, [], [], 0, []⟩
def awD : NoteV := ⟨3, [97], 1, 0, [], [], 0, []⟩
def cA : CV := ⟨[([97], [])], [], [], [], [], 0⟩
def cB : CV := ⟨[([97], [])], [], [([97], 1)], [], [], 1⟩
def cC : CV := ⟨[], [], [], [([97], 2)], [], 2⟩
def cD : CV := ⟨[], [], [], [], [], 1⟩
theorem aw1 : applyC newC awA = (0, cA) := by rfl
theorem aw2 : applyC cA awB = (0, cB) := by rfl
theorem aw3 : applyC cB awC = (0, cC) := by rfl
theorem aw4 : applyC cA awD = (0, cD) := by rfl
theorem aw5 : notesC cC = [genN ([], 2), tombN ([97], 2)] := by
  have h1 : entsC cC = [] := by simp [entsC, sortS, cC]
  have h2 : sortI cC.retired = [] := by simp [sortI, cC]
  unfold notesC
  rw [h1, h2]
  rfl
theorem CatPost.next {F : Nat → Prop} {p N : Nat} {C D : CV} {v : NoteV} {i : Int} {w w' : World} {e : Ending} (h : CatPost F p N (applyC C v) w e w') (ha : applyC C v = (i, D)) :
    e = .returned (.int .i64 i) ∧ ∃ F', CatAt F' w' p N D ∧ (∀ k, F' k → k < w'.heap.size ∧ (F k ∨ w.heap.size ≤ k)) ∧ Chg F w w' := by
  rw [ha] at h
  obtain ⟨h1, F', h2, h3, h4⟩ := h
  exact ⟨h1, F', h2, h4, h3⟩
section
set_option maxHeartbeats 8000000
set_option maxRecDepth 100000
theorem awake13 (w : World) : Calls Tryz.prog 12 #[] w fun e w' => e = .returned (.bool true) ∧ Below w.heap.size w w' := by
  have n0 : ∀ w, NoteIn w awA none 0 0 none 0 0 := fun w => noteIn_lit w _ rfl rfl (by decide) (by decide) (by decide) (by decide) (by decide)
  have n1 : ∀ w, NoteIn w awB none 0 0 none 0 0 := fun w => noteIn_lit w _ rfl rfl (by decide) (by decide) (by decide) (by decide) (by decide)
  have n2 : ∀ w, NoteIn w awC none 0 0 none 0 0 := fun w => noteIn_lit w _ rfl rfl (by decide) (by decide) (by decide) (by decide) (by decide)
  have n3 : ∀ w, NoteIn w awD none 0 0 none 0 0 := fun w => noteIn_lit w _ rfl rfl (by decide) (by decide) (by decide) (by decide) (by decide)
  go_enter Tryz.func12, Tryz.ntmps12
  go_wp2_with fail
  refine (cNew _).mono ?_
  rintro e w1 ⟨p, rfl, hp, hca, hb1⟩
  have C1 := Lib.hid hca
  have B1 := Lib.hid hb1
  clear hca hb1
  go_wp2_with fail
  refine (cApply _ p 0 newC awA none 0 0 none 0 0 _ C1.out (by omega) (n0 _) (fun h => by omega)).mono ?_
  intro e w2 hp2
  obtain ⟨rfl, F2, hc2, hf2, hg2⟩ := hp2.next aw1
  have C2 := Lib.hid hc2
  have G2 := Lib.hid (show Below w.heap.size w w2 from B1.out.trans (hg2.below B1.out.size (fun i hi => hi)))
  have FF2 := Lib.hid (show ∀ k, F2 k → w.heap.size ≤ k ∧ k < w2.heap.size from fun k hk => ⟨(hf2 k hk).2.elim id (fun h => Nat.le_trans B1.out.size h), (hf2 k hk).1⟩)
  clear hp2 hc2 hf2 hg2
  go_wp2_with fail
  refine (cApply _ p 1 cA awB none 0 0 none 0 0 _ C2.out (by omega) (n1 _) (fun h => by omega)).mono ?_
  intro e w3 hp3
  obtain ⟨rfl, F3, hc3, hf3, hg3⟩ := hp3.next aw2
  have C3 := Lib.hid hc3
  have G3 := Lib.hid (show Below w.heap.size w w3 from G2.out.trans (hg3.below G2.out.size (fun i hi => (FF2.out i hi).1)))
  have FF3 := Lib.hid (show ∀ k, F3 k → w.heap.size ≤ k ∧ k < w3.heap.size from fun k hk => ⟨(hf3 k hk).2.elim (fun h => (FF2.out k h).1) (fun h => Nat.le_trans G2.out.size h), (hf3 k hk).1⟩)
  clear hp3 hc3 hf3 hg3
  go_wp2_with fail
  refine (cApply _ p 2 cB awC none 0 0 none 0 0 _ C3.out (by omega) (n2 _) (fun h => by omega)).mono ?_
  intro e w4 hp4
  obtain ⟨rfl, F4, hc4, hf4, hg4⟩ := hp4.next aw3
  have C4 := Lib.hid hc4
  have G4 := Lib.hid (show Below w.heap.size w w4 from G3.out.trans (hg4.below G3.out.size (fun i hi => (FF3.out i hi).1)))
  have FF4 := Lib.hid (show ∀ k, F4 k → k < w4.heap.size from fun k hk => (hf4 k hk).1)
  clear hp4 hc4 hf4 hg4
  go_wp2_with fail
  refine (cNotes F4 p 3 cC _ C4.out (by omega)).mono ?_
  rw [aw5]
  rintro e w5 ⟨LB, rfl, ⟨lc, hst⟩, hb5⟩
  obtain ⟨lg, D0, dc0, Q0, qc0, rfl, hlg, hlc⟩ := hst.get rfl (j := 0) rfl
  have l0 : w5.cell? ⟨lg, 0, none⟩ = some (.int .i64 4) := hlc 0 _ rfl
  have l2 : w5.cell? ⟨lg, 2, none⟩ = some (.int .i64 2) := hlc 2 _ rfl
  have B5 := Lib.hid hb5
  clear hlc hst hb5
  go_wp2_with fail
  refine (cTombs F4 p 3 cC _ (C4.out.below B5.out) (by omega)).mono ?_
  rintro e w6 ⟨tv, rfl, ho6, hb6⟩
  obtain ⟨tg, rfl, htg⟩ : ∃ g, tv = .slice (some ⟨g, 0, none⟩) 1 1 ∧ RowAt w6 g 32 (tombVals cC.tombs) := by
    rcases ho6 with ⟨_, h, _⟩ | ⟨g, h1, _, h3⟩
    · exact absurd h (by decide)
    · exact ⟨g, h1, h3⟩
  have t1 : w6.cell? ⟨tg, 1, none⟩ = some (.string ⟨#[97]⟩) := htg.cell (i := 1) rfl
  have t2 : w6.cell? ⟨tg, 2, none⟩ = some (.int .i64 2) := htg.cell (i := 2) rfl
  have t6 : w6.cell? ⟨tg, 6, none⟩ = some (.int .i64 1) := htg.cell (i := 6) rfl
  have B6 := Lib.hid hb6
  have hlg6 : lg < w6.heap.size := Nat.lt_of_lt_of_le hlg hb6.size
  have htg6 : tg < w6.heap.size := htg.size
  have m0 : w6.cell? ⟨lg, 0, none⟩ = some (.int .i64 4) := (hb6.cell (p := ⟨lg, 0, none⟩) hlg).trans l0
  have m2 : w6.cell? ⟨lg, 2, none⟩ = some (.int .i64 2) := (hb6.cell (p := ⟨lg, 2, none⟩) hlg).trans l2
  have C6 := Lib.hid ((C4.out.below B5.out).below B6.out)
  have h46 : w4.heap.size ≤ w6.heap.size := Nat.le_trans B5.out.size B6.out.size
  have G6 := Lib.hid (show Below w.heap.size w w6 from (G4.out.trans (B5.out.mono G4.out.size)).trans (B6.out.mono (Nat.le_trans G4.out.size B5.out.size)))
  clear ho6 htg hb6 l0 l2
  go_wp2_with fail
  refine (cNew _).mono ?_
  rintro e w7 ⟨p2, rfl, hp2, hca7, hb7⟩
  have D7 := Lib.hid hca7
  have B7 := Lib.hid hb7
  clear hca7 hb7
  go_wp2_with fail
  refine (cApply _ p2 0 newC awA none 0 0 none 0 0 _ D7.out (by omega) (n0 _) (fun h => by omega)).mono ?_
  intro e w8 hp8
  obtain ⟨rfl, F8, hc8, hf8, hg8⟩ := hp8.next aw1
  have D8 := Lib.hid hc8
  have G8 := Lib.hid (show Below w6.heap.size w6 w8 from B7.out.trans (hg8.below B7.out.size (fun i hi => hi)))
  have FF8 := Lib.hid (show ∀ k, F8 k → w6.heap.size ≤ k ∧ k < w8.heap.size from fun k hk => ⟨(hf8 k hk).2.elim id (fun h => Nat.le_trans B7.out.size h), (hf8 k hk).1⟩)
  clear hp8 hc8 hf8 hg8
  go_wp2_with fail
  refine (cHas F8 p2 1 cA [97] _ D8.out (by decide)).mono ?_
  rintro e w9 ⟨rfl, hb9⟩
  have B9 := Lib.hid hb9
  have hh1 : hasC cA [97] = true := by rfl
  rw [hh1]
  clear hb9
  go_wp2_with fail
  refine (cStaged F8 p2 1 cA _ (D8.out.below B9.out) (by omega)).mono ?_
  rintro e w10 ⟨sv, rfl, ho10, hb10⟩
  obtain ⟨sa, rfl⟩ : ∃ A, sv = .slice A 1 1 := by
    rcases ho10 with ⟨_, h, _⟩ | ⟨g, h1, _⟩
    · exact absurd h (by decide)
    · exact ⟨_, h1⟩
  have B10 := Lib.hid hb10
  have G10 := Lib.hid (show Below w6.heap.size w6 w10 from (G8.out.trans (B9.out.mono G8.out.size)).trans (B10.out.mono (Nat.le_trans G8.out.size B9.out.size)))
  have FF10 := Lib.hid (show w8.heap.size ≤ w10.heap.size from Nat.le_trans B9.out.size B10.out.size)
  clear ho10 hb10
  go_wp2_with fail
  refine (cApply _ p2 1 cA awD none 0 0 none 0 0 _ ((D8.out.below B9.out).below B10.out) (by omega) (n3 _) (fun h => by omega)).mono ?_
  intro e w11 hp11
  obtain ⟨rfl, F11, hc11, hf11, hg11⟩ := hp11.next aw4
  have D11 := Lib.hid hc11
  have hb11 : Below w6.heap.size w6 w11 := G10.out.trans (hg11.below G10.out.size (fun i hi => (FF8.out i hi).1))
  have G11 := Lib.hid hb11
  have u1 : w11.cell? ⟨tg, 1, none⟩ = some (.string ⟨#[97]⟩) := (hb11.cell (p := ⟨tg, 1, none⟩) htg6).trans t1
  have u2 : w11.cell? ⟨tg, 2, none⟩ = some (.int .i64 2) := (hb11.cell (p := ⟨tg, 2, none⟩) htg6).trans t2
  have u6 : w11.cell? ⟨tg, 6, none⟩ = some (.int .i64 1) := (hb11.cell (p := ⟨tg, 6, none⟩) htg6).trans t6
  have o0 : w11.cell? ⟨lg, 0, none⟩ = some (.int .i64 4) := (hb11.cell (p := ⟨lg, 0, none⟩) hlg6).trans m0
  have o2 : w11.cell? ⟨lg, 2, none⟩ = some (.int .i64 2) := (hb11.cell (p := ⟨lg, 2, none⟩) hlg6).trans m2
  have C11 := Lib.hid (C6.out.below hb11)
  clear hp11 hc11 hf11 hg11 hb11
  go_wp2_with fail
  refine (cGen F4 p 3 cC _ C11.out).mono ?_
  rintro e w12 ⟨rfl, rfl⟩
  have hg2 : cC.gen = 2 := rfl
  rw [hg2]
  go_wp2_with fail
  refine (cHas F4 p 3 cC [97] _ C11.out (by decide)).mono ?_
  rintro e w13 ⟨rfl, hb13⟩
  have B13 := Lib.hid hb13
  have hh2 : hasC cC [97] = false := by rfl
  rw [hh2]
  clear hb13
  go_wp2_with fail
  refine (cTombs F11 p2 2 cD _ (D11.out.below B13.out) (by omega)).mono ?_
  rintro e w14 ⟨tv2, rfl, ho14, hb14⟩
  obtain ⟨ta, rfl⟩ : ∃ A, tv2 = .slice A 0 0 := by
    rcases ho14 with ⟨h, _⟩ | ⟨g, h1, _⟩
    · exact ⟨_, h⟩
    · exact ⟨_, h1⟩
  have B14 := Lib.hid hb14
  clear ho14 hb14
  go_wp2_with fail
  refine (cGen F11 p2 2 cD _ ((D11.out.below B13.out).below B14.out)).mono ?_
  rintro e w15 ⟨rfl, rfl⟩
  have hg3 : cD.gen = 1 := rfl
  rw [hg3]
  go_wp2_with fail
  go_ret
  exact ⟨rfl, ((G6.out.trans (G11.out.mono G6.out.size)).trans (B13.out.mono (Nat.le_trans G6.out.size G11.out.size))).trans (B14.out.mono (Nat.le_trans (Nat.le_trans G6.out.size G11.out.size) B13.out.size))⟩
end
end Go.Proofs.YtmkccblcmiflfaaGreat

namespace Go.Proofs.YtmkccblcmiflfaaGreat
open Go.RowKit Go.Maps Go.WideMaps

/-- What holds of begun generations and tombs. -/
structure JC (C : CV) : Prop where
  had : ∀ q ∈ C.begun, hasC C q.1 = true
  tn : C.tombs.Nodup
  tg : ∀ q ∈ C.tombs, q.2 ≤ C.gen
theorem JC.new : JC newC := ⟨by simp [newC], by simp [newC], by simp [newC]⟩
theorem delL_mem {β : Type} {L : List (Str × β)} {k : Str} {q : Str × β} : q ∈ delL L k ↔ q ∈ L ∧ q.1 ≠ k := by simp [delL]
theorem putL_mem {β : Type} {L : List (Str × β)} {k : Str} {v : β} {q : Str × β} : q ∈ putL L k v ↔ (q ∈ L ∧ q.1 ≠ k) ∨ q = (k, v) := by
  unfold putL
  rw [List.mem_append, delL_mem, List.mem_singleton]
theorem hasC_put {C : CV} {k k' d : Str} : hasC { C with staged := C.staged ++ [(k', d)] } k = (hasC C k || decide (k' = k)) := by
  unfold hasC
  rw [show hasL (C.staged ++ [(k', d)]) k = (hasL C.staged k || decide (k' = k)) by simp [hasL], Bool.or_assoc]
theorem hasC_placed {C : CV} {k k' : Str} {e : EntV} : hasC { C with staged := delL C.staged k', entries := putL C.entries k' e } k = (hasC C k || decide (k = k')) := by
  unfold hasC
  rw [show hasL (delL C.staged k') k = _ from hasL_del _ _ _, show hasL (putL C.entries k' e) k = _ from hasL_put _ _ _ _]
  cases hasL C.entries k <;> cases hasL C.staged k <;> by_cases h : k = k' <;> simp [h]
theorem JC.step {C : CV} {v : NoteV} (h : JC C) : JC (applyC C v).2 := by
  unfold applyC
  split
  · unfold putC
    split
    · exact h
    · split
      · exact h
      · refine ⟨fun q hq => ?_, h.tn, h.tg⟩
        rw [hasC_put, h.had q hq]
        rfl
  split
  · unfold placedC
    split
    · exact h
    · split
      · exact h
      · refine ⟨fun q hq => ?_, h.tn, h.tg⟩
        rw [hasC_placed, h.had q hq]
        rfl
  split
  · unfold goneC
    split
    · exact h
    · split
      · exact h
      · rename_i hg
        have hl := laterB_lt hg
        refine ⟨fun q hq => ?_, ?_, fun q hq => ?_⟩
        · have hq' := delL_mem.1 (show q ∈ delL C.begun v.key from hq)
          have h1 := h.had q hq'.1
          show (hasL (delL C.entries v.key) q.1 || hasL (delL C.staged v.key) q.1) = true
          rw [hasL_del, hasL_del]
          unfold hasC at h1
          rw [show decide (q.1 = v.key) = false by simpa using hq'.2]
          simpa using h1
        · show (goneL C v).Nodup
          unfold goneL
          split
          · refine List.nodup_append.2 ⟨h.tn, by simp, fun a ha b hb e => ?_⟩
            have hb' : b = (v.key, v.gen) := by simpa using hb
            have := h.tg a ha
            rw [e, hb'] at this
            simp only at this
            omega
          · exact h.tn
        · show q.2 ≤ v.gen
          have hq' : q ∈ goneL C v := hq
          unfold goneL at hq'
          split at hq'
          · rcases List.mem_append.1 hq' with h1 | h1
            · have := h.tg q h1
              omega
            · have e : q = (v.key, v.gen) := by simpa using h1
              rw [e]
              exact Int.le_refl _
          · have := h.tg q hq'
            omega
  split
  · unfold beginC
    split
    · exact h
    · rename_i hg
      have hl := laterB_lt hg
      split
      · exact h
      · rename_i hk
        refine ⟨fun q hq => ?_, h.tn, fun q hq => ?_⟩
        · show hasC C q.1 = true
          have hq' : q ∈ (if v.key = [] then C.begun else putL C.begun v.key v.gen) := hq
          split at hq'
          · exact h.had q hq'
          · rename_i hne
            rcases putL_mem.1 hq' with h1 | h1
            · exact h.had q h1.1
            · rw [h1]
              have : ¬ (v.key ≠ [] ∧ hasC C v.key = false) := hk
              cases hh : hasC C v.key
              · exact absurd ⟨hne, hh⟩ this
              · rfl
        · show q.2 ≤ v.gen
          have := h.tg q hq
          omega
  split
  · unfold retireC
    split
    · exact h
    · exact ⟨h.had, h.tn, h.tg⟩
  split
  · unfold tombC
    split
    · rename_i hc
      refine ⟨h.had, List.nodup_append.2 ⟨h.tn, by simp, fun a ha b hb e => ?_⟩, fun q hq => ?_⟩
      · have hb' : b = (v.key, v.gen) := by simpa using hb
        have h1 := idxP_neg.1 hc.2.1
        rw [List.any_eq_false] at h1
        have h2 := h1 a ha
        rw [e, hb'] at h2
        simp [isTomb] at h2
      · rcases List.mem_append.1 (show q ∈ C.tombs ++ [(v.key, v.gen)] from hq) with h1 | h1
        · exact h.tg q h1
        · have e : q = (v.key, v.gen) := by simpa using h1
          rw [e]
          exact hc.2.2.2.2.2
    · split
      · exact ⟨h.had, h.tn.sublist (List.eraseIdx_sublist ..), fun q hq => h.tg q ((List.eraseIdx_sublist ..).subset hq)⟩
      · exact h
  · exact h
theorem waiting_eq (C : CV) (q : Str × Int) : waiting C q = hasL C.staged q.1 := by
  unfold waiting
  cases h : hasL C.staged q.1
  · have := (waitsC_neg C q.1).2 h
    simpa using this
  · have : ¬ waitsC C q.1 < 0 := fun e => by rw [(waitsC_neg C q.1).1 e] at h; cases h
    simpa using this
theorem gensC_eq (C : CV) : gensC C = C.begun.filter (fun q => hasL C.staged q.1) := by
  unfold gensC
  congr 1
  funext q
  exact waiting_eq C q
theorem mem_putR {L : List Int} {n x : Int} : x ∈ putR L n ↔ (x ∈ L ∧ x ≠ n) ∨ x = n := by
  unfold putR
  rw [List.mem_append, List.mem_filter, List.mem_singleton]
  simp
theorem laterB_eqv {C D : CV} (h : D.gen = C.gen) (g : Int) : laterB D g = laterB C g := by unfold laterB; rw [h]
end Go.Proofs.YtmkccblcmiflfaaGreat

namespace Go.Proofs.YtmkccblcmiflfaaGreat
open Go.RowKit Go.Maps Go.WideMaps

theorem entsC_fst (C : CV) : (entsC C).map Prod.fst = sortS (C.entries.map Prod.fst) := by
  unfold entsC
  rw [List.map_map]
  exact List.map_id _
theorem entsC_mem {C : CV} {q : Str × EntV} (h : q ∈ entsC C) : q ∈ C.entries ∧ q.2 = entC C q.1 := by
  unfold entsC at h
  obtain ⟨k, hk, rfl⟩ := List.mem_map.1 h
  exact ⟨getL_mem zeroV (hasL_mem.2 ((List.mergeSort_perm _ _).mem_iff.1 hk)), rfl⟩
theorem entsC_nd {C : CV} (h : (C.entries.map Prod.fst).Nodup) : ((entsC C).map Prod.fst).Nodup := by
  rw [entsC_fst]
  exact (List.mergeSort_perm _ _).nodup_iff.2 h
theorem entsC_has (C : CV) (k : Str) : hasL (entsC C) k = hasL C.entries k := by
  rw [Bool.eq_iff_iff, hasL_mem, hasL_mem, entsC_fst]
  exact (List.mergeSort_perm _ _).mem_iff
end Go.Proofs.YtmkccblcmiflfaaGreat

namespace Go.Proofs.YtmkccblcmiflfaaGreat
open Go.RowKit Go.Maps Go.WideMaps

theorem CatAt.facts {F : Nat → Prop} {w : World} {p N : Nat} {C : CV} (h : CatAt F w p N C) : CWf N C ∧ (C.entries.map Prod.fst).Nodup ∧ (C.begun.map Prod.fst).Nodup ∧ C.retired.Nodup ∧ C.entries.length ≤ N ∧ C.begun.length ≤ N ∧ C.retired.length ≤ N := by
  obtain ⟨sv, tv, SR, ER, be, bb, br, hr⟩ := h
  have e1 : (entVals ER).map Prod.fst = C.entries.map Prod.fst := by rw [← hr.entr, entVals, List.map_map, List.map_map]; rfl
  have e2 : (begunVals C.begun).map Prod.fst = C.begun.map Prod.fst := by unfold begunVals; rw [List.map_map]; rfl
  have e3 : (retVals C.retired).map Prod.fst = C.retired := by unfold retVals; rw [List.map_map]; exact List.map_id _
  refine ⟨hr.wf, by rw [← e1]; exact hr.ents.nd, by rw [← e2]; exact hr.begs.nd, by have h := hr.rets.nd; rwa [e3] at h, ?_, ?_, ?_⟩
  · have h1 := hr.ents.len
    have h2 := congrArg List.length e1
    simp only [List.length_map] at h2
    omega
  · have h1 := hr.begs.len
    simpa [begunVals] using h1
  · have h1 := hr.rets.lenI
    simpa [retVals] using h1
theorem OneRow.src {w : World} {g : Nat} {t : TypeId} {xs : List Value} {m : Nat} (h : RowAt w g t xs) : SrcAt w (some ⟨g, 0, none⟩) m xs := .inr ⟨g, 0, rfl, fun j u hu => by rw [Nat.zero_add]; exact h.cell hu⟩
theorem NotePOk.rd {w0 w w' : World} {r : NoteP} (h : NotePOk w0 w r) (hk : ∀ k, w0.heap.size ≤ k → k < w.heap.size → w'.heap[k]? = w.heap[k]?) : NoteRd w' r.v r.D r.v.data.length r.Q r.v.places.length := by
  refine ⟨?_, ⟨rfl, ?_⟩, ?_⟩
  · rcases h.data with ⟨h1, h2, _, h4⟩ | ⟨g, h1, h2, h3, _⟩
    · have e : r.v.data = [] := List.eq_nil_of_length_eq_zero h2
      rw [e]
      exact BytesIn.empty _ _
    · rw [h1]
      exact (h3.of_eq (hk g h2 h3.size)).bytesIn
  · rcases h.places with ⟨h1, h2, _, h4⟩ | ⟨g, h1, h2, h3, _⟩
    · exact .inl ⟨h2, h4⟩
    · rw [h1]
      exact OneRow.src (h3.of_eq (hk g h2 h3.size))
  · rcases h.places with ⟨_, h2, _, _⟩ | ⟨g, _, _, _, h4, h5⟩
    · rw [h2]
      exact Nat.zero_le _
    · exact Nat.le_trans h4 h5
theorem NSt.held {w0 w : World} {B : Option Addr} {c : Nat} {L : List NoteV} (h : NSt w0 w (.slice B L.length c) L) :
    ∃ NP : List NoteP, NP.map (·.v) = L ∧ ∀ w' : World, (∀ k, w0.heap.size ≤ k → k < w.heap.size → w'.heap[k]? = w.heap[k]?) → NotesRd w' B L.length NP := by
  obtain ⟨NP, h1, h2, h3, h4⟩ := h
  obtain ⟨B', c', e, hn, hc, hB⟩ := own_form h2
  cases e
  refine ⟨NP, h1, fun w' hk => ⟨by rw [← h1, List.length_map], ?_, fun r hr => (h3 r hr).rd hk, Nat.le_trans hn hc⟩⟩
  rcases hB with ⟨rfl, h0, _⟩ | ⟨g, rfl⟩
  · refine .inl ⟨h0, ?_⟩
    have e : NP = [] := by
      rw [← h1, List.length_map] at h0
      exact List.eq_nil_of_length_eq_zero h0
    rw [e]
    rfl
  · have hg := h2.lt g rfl
    exact OneRow.src ((RowAt.of_own h2).of_eq (hk g hg.1 hg.2))
end Go.Proofs.YtmkccblcmiflfaaGreat

namespace Go.Proofs.YtmkccblcmiflfaaGreat
open Go.RowKit Go.Maps Go.WideMaps

structure StrsRd (w : World) (A : Option Addr) (n : Nat) (L : List Str) : Prop where
  len : L.length = n
  row : SrcAt w A n (strVals L)
  max : n ≤ maxLen
theorem StrsRd.below {w w' : World} {A : Option Addr} {n : Nat} {L : List Str} (h : StrsRd w A n L) (hb : Below w.heap.size w w') : StrsRd w' A n L := ⟨h.len, h.row.below hb, h.max⟩
theorem OutAt.strs {w0 w : World} {v : Value} {n : Nat} {L : List Str} (h : OutAt w0 w 9 v n (strVals L)) (hn : L.length = n) (hm : n ≤ maxLen) : ∃ A, v = .slice A n n ∧ StrsRd w A n L := by
  rcases h with ⟨rfl, h0, hx⟩ | ⟨g, rfl, h1, h2⟩
  · exact ⟨none, by rw [h0], hn, .inl ⟨h0, hx⟩, hm⟩
  · exact ⟨_, rfl, hn, OneRow.src h2, hm⟩
theorem strVals_get {L : List Str} {j : Nat} {x : Str} (h : L[j]? = some x) : (strVals L)[j]? = some (encStr x) := by
  unfold strVals
  rw [List.getElem?_map, h]
  rfl
section
set_option maxHeartbeats 4000000
set_option maxRecDepth 16000
theorem sameS (A : Option Addr) (n c : Nat) (L : List Str) (A' : Option Addr) (n' c' : Nat) (L' : List Str) (w : World) (h : StrsRd w A n L) (h' : StrsRd w A' n' L') :
    Calls Tryz.prog 42 #[.slice A n c, .slice A' n' c'] w fun e w' => e = .returned (.bool (decide (L = L'))) ∧ Below w.heap.size w w' := by
  have H := Lib.hid h
  have H' := Lib.hid h'
  have h63 : n ≤ 9223372036854775807 := by have := h.max; simpa [maxLen] using this
  clear h h'
  by_cases hn : n = n'
  case neg =>
    have r := decide_eq_false (fun e : L = L' => hn (by rw [← H.out.len, ← H'.out.len, e]))
    have e1 : ((n : Int) != (n' : Int)) = true := by simp; omega
    clear hn
    go_enter Tryz.func42, Tryz.ntmps42
    go_wp2_with fail
    go_ret
    exact ⟨ret_b r.symm, Below.refl _ _⟩
  subst hn
  go_enter Tryz.func42, Tryz.ntmps42
  go_wp2_with fail
  go_loopw [5] (fun i wx => ∃ j : Nat, i = .int .i64 j ∧ j ≤ n ∧ L.take j = L'.take j ∧ Below w.heap.size w wx) (fun i _ => n - (intOf i).toNat)
  case atStart => exact ⟨0, rfl, Nat.zero_le _, rfl, Below.refl _ _⟩
  case round =>
    obtain ⟨j, rfl, hj, heq, hbl⟩ := hrel
    have BL := Lib.hid hbl
    have HEQ := Lib.hid heq
    by_cases hlt : j < n
    · have d1 : decide (j < n) = true := by simpa using hlt
      obtain ⟨x, hx⟩ : ∃ x, L[j]? = some x := ⟨_, List.getElem?_eq_getElem (by rw [H.out.len]; exact hlt)⟩
      obtain ⟨y, hy⟩ : ∃ y, L'[j]? = some y := ⟨_, List.getElem?_eq_getElem (by rw [H'.out.len]; exact hlt)⟩
      obtain ⟨b, off, rfl, hc⟩ : ∃ b off, A = some ⟨b, off, none⟩ ∧ ∀ j u, (strVals L)[j]? = some u → wr.cell? ⟨b, off + j, none⟩ = some u := by
        rcases H.out.row.below hbl with ⟨h0, _⟩ | ⟨b, off, h1, h2⟩
        · omega
        · exact ⟨b, off, h1, h2⟩
      obtain ⟨b', off', rfl, hc'⟩ : ∃ b off, A' = some ⟨b, off, none⟩ ∧ ∀ j u, (strVals L')[j]? = some u → wr.cell? ⟨b, off + j, none⟩ = some u := by
        rcases H'.out.row.below hbl with ⟨h0, _⟩ | ⟨b, off, h1, h2⟩
        · omega
        · exact ⟨b, off, h1, h2⟩
      have x0 : wr.cell? ⟨b, off + j, none⟩ = some (encStr x) := hc _ _ (strVals_get hx)
      have y0 : wr.cell? ⟨b', off' + j, none⟩ = some (encStr y) := hc' _ _ (strVals_get hy)
      have HX := Lib.hid hx
      have HY := Lib.hid hy
      clear hx hy hbl hc hc' heq
      by_cases n1 : x = y
      case neg =>
        have f1 : (x == y) = false := by simpa using n1
        have r := decide_eq_false (fun e : L = L' => n1 (by have h := HX.out; rw [e, HY.out] at h; injection h with h; exact h.symm))
        clear n1
        go_wp2_with fail
        go_quiet (fail)
        go_wp2_with fail
        go_ret
        exact ⟨ret_b r.symm, below_drewN BL.out _⟩
      have f1 : (x == y) = true := by simpa using n1
      have HE1 := Lib.hid n1
      clear n1
      go_wp2_with fail
      go_quiet (fail)
      go_wp2_with fail
      go_roundw
      case rel => exact ⟨j + 1, by go_num, hlt, by rw [List.take_add_one, List.take_add_one, HX.out, HY.out, HEQ.out, HE1.out], below_drewN BL.out _⟩
      case measure => simp [intOf]; omega
    · have d1 : decide (j < n) = false := by simpa using hlt
      obtain rfl : j = n := by omega
      have q := decide_eq_true (show L = L' by
        have h8 := HEQ.out
        rwa [List.take_of_length_le (by rw [H.out.len]; exact Nat.le_refl _), List.take_of_length_le (by rw [H'.out.len]; exact Nat.le_refl _)] at h8)
      go_wp2_with fail
      go_ret
      exact ⟨by first | rfl | exact ret_b q.symm, BL.out⟩
end
end Go.Proofs.YtmkccblcmiflfaaGreat

namespace Go.Proofs.YtmkccblcmiflfaaGreat
open Go.RowKit Go.Maps Go.WideMaps Go.Sort

/-- How many bytes wait under a key. -/
def dl (C : CV) (key : Str) : Nat := (getL [] C.staged key).length
def usedC (C : CV) : Nat := ((C.staged.map Prod.fst).map (dl C)).sum
theorem dl_le {N : Nat} {C : CV} (hw : CWf N C) (key : Str) : dl C key ≤ 512 := by
  unfold dl
  cases hh : hasL C.staged key with
  | false => rw [getL_no [] hh]; exact Nat.zero_le _
  | true => exact (hw.keys _ (getL_mem [] hh)).2.2
theorem sum_le {α : Type} (f : α → Nat) (b : Nat) : ∀ l : List α, (∀ x ∈ l, f x ≤ b) → (l.map f).sum ≤ b * l.length
  | [], _ => Nat.zero_le _
  | x :: l, h => by
    have h1 := h x (by simp)
    have h2 := sum_le f b l (fun y hy => h y (List.mem_cons_of_mem _ hy))
    rw [List.map_cons, List.sum_cons, List.length_cons, Nat.mul_succ]
    omega
theorem used_le {N : Nat} {C : CV} (hw : CWf N C) (l : List Str) : (l.map (dl C)).sum ≤ 512 * l.length := sum_le (dl C) 512 l (fun x _ => dl_le hw x)
theorem sum_append {α : Type} (f : α → Nat) (l m : List α) : ((l ++ m).map f).sum = (l.map f).sum + (m.map f).sum := by
  induction l with
  | nil => simp
  | cons x l ih => rw [List.cons_append, List.map_cons, List.sum_cons, ih, List.map_cons, List.sum_cons, Nat.add_assoc]
theorem sum_take {α : Type} (f : α → Nat) {l : List α} {j : Nat} {x : α} (h : l[j]? = some x) : ((l.take (j + 1)).map f).sum = ((l.take j).map f).sum + f x := by
  rw [List.take_add_one, h, Option.toList_some, sum_append]
  simp
/-- What Data tells, by its length. -/
theorem data_len {N : Nat} {C : CV} {key : Str} {w w' : World} {e : Ending} (hw : CWf N C) (h : DataTold C key w w' e) :
    ∃ B, e = .returned (.tuple #[.slice B (dl C key) (dl C key), .bool (hasL C.staged key)]) := by
  rcases h with ⟨h1, rfl⟩ | ⟨d, v, ⟨i, _, hi⟩, _, rfl, ho⟩
  · refine ⟨none, ?_⟩
    unfold dl
    rw [h1, getL_no [] h1]
    rfl
  · have hm := List.mem_of_getElem? hi
    have hs : hasL C.staged key = true := hasL_mem.2 (List.mem_map.2 ⟨_, hm, rfl⟩)
    have hd : getL [] C.staged key = d := getL_at [] hw.nds hm
    unfold dl
    rw [hd, hs]
    rcases ho with ⟨rfl, h0, _⟩ | ⟨g, rfl, _⟩
    · exact ⟨none, by rw [h0]⟩
    · exact ⟨_, rfl⟩
end Go.Proofs.YtmkccblcmiflfaaGreat

namespace Go.Proofs.YtmkccblcmiflfaaGreat
open Go.RowKit Go.Maps Go.WideMaps Go.Sort

def SortedE (L : List (Str × EntV)) : Prop := L.Pairwise fun a b => a.1 < b.1
theorem str_irrefl (a : Str) : ¬ a < a := List.lt_irrefl a
theorem str_asymm {a b : Str} (h : a < b) : ¬ b < a := fun h' => str_irrefl a (List.lt_trans h h')
theorem SortedE.nodup {L : List (Str × EntV)} (h : SortedE L) : L.Nodup := h.imp fun h e => by rw [e] at h; exact str_irrefl _ h
theorem sorted_eq {L M : List (Str × EntV)} (hL : SortedE L) (hM : SortedE M) (h : ∀ q, q ∈ L ↔ q ∈ M) : L = M :=
  List.Perm.eq_of_pairwise (le := fun a b : Str × EntV => a.1 < b.1) (fun _ _ _ _ h1 h2 => absurd h2 (str_asymm h1)) hL hM ((List.perm_ext_iff_of_nodup hL.nodup hM.nodup).2 h)
theorem sortS_lt {l : List Str} (hn : l.Nodup) : (sortS l).Pairwise fun a b => a < b := by
  have h1 : (sortS l).Pairwise (fun a b => leB a b = true) := by
    unfold sortS
    exact List.pairwise_mergeSort (fun a b c h1 h2 => by simp only [leB, decide_eq_true_eq] at *; exact List.le_trans h1 h2) (fun a b => by simp only [leB, Bool.or_eq_true, decide_eq_true_eq]; exact List.le_total a b) _
  have h2 : (sortS l).Nodup := by
    unfold sortS
    exact (List.mergeSort_perm _ _).nodup_iff.2 hn
  refine (h1.and h2).imp fun {a b} h => ?_
  have hle : a ≤ b := by simpa [leB] using h.1
  exact Decidable.byContradiction fun hx => h.2 (List.le_antisymm hle (List.not_lt.1 hx))
theorem entsC_sorted {C : CV} (ne : (C.entries.map Prod.fst).Nodup) : SortedE (entsC C) := by
  unfold SortedE entsC
  rw [List.pairwise_map]
  exact sortS_lt ne
theorem entsC_mem_iff {C : CV} (ne : (C.entries.map Prod.fst).Nodup) (q : Str × EntV) : q ∈ entsC C ↔ q ∈ C.entries := by
  constructor
  · exact fun h => (entsC_mem h).1
  · intro h
    unfold entsC
    refine List.mem_map.2 ⟨q.1, (List.mergeSort_perm _ _).mem_iff.2 (List.mem_map.2 ⟨q, h, rfl⟩), ?_⟩
    rw [show entC C q.1 = q.2 from getL_at zeroV ne h]
/-- Put in where it belongs. -/
def insE (L : List (Str × EntV)) (q : Str × EntV) : List (Str × EntV) := L.takeWhile (fun x => decide (x.1 < q.1)) ++ q :: L.dropWhile (fun x => decide (x.1 < q.1))
theorem insE_mem {L : List (Str × EntV)} {q x : Str × EntV} : x ∈ insE L q ↔ x ∈ L ∨ x = q := by
  have h : x ∈ L ↔ x ∈ L.takeWhile (fun x => decide (x.1 < q.1)) ∨ x ∈ L.dropWhile (fun x => decide (x.1 < q.1)) := by
    rw [← List.mem_append, List.takeWhile_append_dropWhile]
  unfold insE
  rw [List.mem_append, List.mem_cons, h]
  constructor
  · rintro (h | h | h)
    · exact .inl (.inl h)
    · exact .inr h
    · exact .inl (.inr h)
  · rintro ((h | h) | h)
    · exact .inl h
    · exact .inr (.inr h)
    · exact .inr (.inl h)
theorem insE_sorted {L : List (Str × EntV)} {q : Str × EntV} (h : SortedE L) (hn : ∀ x ∈ L, x.1 ≠ q.1) : SortedE (insE L q) := by
  induction L with
  | nil => simp [insE, SortedE]
  | cons y L ih =>
    obtain ⟨h1, h2⟩ := List.pairwise_cons.1 h
    by_cases hy : y.1 < q.1
    · have e : insE (y :: L) q = y :: insE L q := by simp [insE, hy]
      rw [e]
      refine List.pairwise_cons.2 ⟨fun x hx => ?_, ih h2 (fun x hx => hn x (List.mem_cons_of_mem _ hx))⟩
      rcases insE_mem.1 hx with hx | hx
      · exact h1 x hx
      · rw [hx]
        exact hy
    · have e : insE (y :: L) q = q :: y :: L := by simp [insE, hy]
      have hqy : q.1 < y.1 := Decidable.byContradiction fun hx => hn y (by simp) (List.le_antisymm (List.not_lt.1 hx) (List.not_lt.1 hy))
      rw [e]
      refine List.pairwise_cons.2 ⟨fun x hx => ?_, h⟩
      rcases List.mem_cons.1 hx with hx | hx
      · rw [hx]
        exact hqy
      · exact List.lt_trans hqy (h1 x hx)
theorem SortedE.del {L : List (Str × EntV)} (h : SortedE L) (key : Str) : SortedE (delL L key) := h.sublist List.filter_sublist
/-- An entry put into a catalog, as the document's catalog puts it. -/
theorem entsC_put {C D : CV} {key : Str} {e : EntV} (hD : D.entries = putL C.entries key e) (ne : (C.entries.map Prod.fst).Nodup) : entsC D = insE (delL (entsC C) key) (key, e) := by
  have nd : (D.entries.map Prod.fst).Nodup := by rw [hD]; exact nodup_put ne key e
  refine sorted_eq (entsC_sorted nd) (insE_sorted ((entsC_sorted ne).del key) (fun x hx => (delL_mem.1 hx).2)) (fun q => ?_)
  rw [entsC_mem_iff nd, hD, putL_mem, insE_mem, delL_mem, entsC_mem_iff ne]
theorem entsC_del {C D : CV} {key : Str} (hD : D.entries = delL C.entries key) (ne : (C.entries.map Prod.fst).Nodup) : entsC D = delL (entsC C) key := by
  have nd : (D.entries.map Prod.fst).Nodup := by rw [hD]; exact nodup_del ne key
  refine sorted_eq (entsC_sorted nd) ((entsC_sorted ne).del key) (fun q => ?_)
  rw [entsC_mem_iff nd, hD, delL_mem, delL_mem, entsC_mem_iff ne]
end Go.Proofs.YtmkccblcmiflfaaGreat

namespace Go.Proofs.YtmkccblcmiflfaaGreat
open Go.RowKit Go.Maps Go.WideMaps

def rusedL (R : CV) : Nat := (R.staged.map fun q => q.2.length).sum
def refPlaced (R : CV) (v : NoteV) : Int × CV :=
  if v.key.length < 1 ∨ 16 < v.key.length ∨ v.gen < 1 ∨ R.gen < v.gen ∨ v.size < 0 ∨ 512 < v.size then (12, R)
  else if (v.places.length : Int) ≠ groupsI v.size * 10 then (12, R)
  else (0, { R with staged := delL R.staged v.key, entries := insE (delL R.entries v.key) (v.key, ⟨v.gen, v.size, v.sum, v.places⟩) })
def refRetire (R : CV) (v : NoteV) : Int × CV := if v.cart < 0 ∨ 32 ≤ v.cart then (12, R) else (0, if v.cart ∈ R.retired then R else { R with retired := R.retired ++ [v.cart] })
/-- What a note does to the document's catalog. -/
def refApply (R : CV) (v : NoteV) : Int × CV :=
  if v.kind = 1 then putC R v else if v.kind = 2 then refPlaced R v else if v.kind = 3 then goneC R v else if v.kind = 4 then beginC R v else if v.kind = 5 then refRetire R v else if v.kind = 6 then tombC R v else (12, R)
/-- The document's catalog says what the program's does. -/
structure RelR (C R : CV) : Prop where
  st : R.staged = C.staged
  bg : R.begun = C.begun
  tb : R.tombs = C.tombs
  gn : R.gen = C.gen
  en : R.entries = entsC C
  rt : ∀ n, n ∈ R.retired ↔ n ∈ C.retired
  nd : R.retired.Nodup
theorem RelR.new : RelR newC newC := ⟨rfl, rfl, rfl, rfl, by simp [entsC, sortS, newC], fun _ => Iff.rfl, List.nodup_nil⟩
theorem RelR.has {C R : CV} (h : RelR C R) (k : Str) : hasC R k = hasC C k := by
  unfold hasC
  rw [h.st, h.en, entsC_has]
theorem entsC_same {C D : CV} (h : D.entries = C.entries) : entsC D = entsC C := by
  unfold entsC entC
  rw [h]
theorem rel_step {C R : CV} {v : NoteV} (h : RelR C R) (ne : (C.entries.map Prod.fst).Nodup) : (refApply R v).1 = (applyC C v).1 ∧ RelR (applyC C v).2 (refApply R v).2 := by
  unfold refApply applyC
  split
  · unfold putC
    split
    · exact ⟨rfl, h⟩
    · rw [h.has]
      split
      · exact ⟨rfl, h⟩
      · exact ⟨rfl, { h with st := by show R.staged ++ _ = C.staged ++ _; rw [h.st] }⟩
  split
  · unfold refPlaced placedC
    rw [h.gn]
    split
    · exact ⟨rfl, h⟩
    · split
      · exact ⟨rfl, h⟩
      · exact ⟨rfl, { h with
          st := by show delL R.staged _ = delL C.staged _; rw [h.st]
          gn := rfl
          en := by
            show insE (delL R.entries v.key) (v.key, ⟨v.gen, v.size, v.sum, v.places⟩) = _
            rw [h.en]
            exact (entsC_put (D := { C with staged := delL C.staged v.key, entries := putL C.entries v.key ⟨v.gen, v.size, v.sum, v.places⟩ }) rfl ne).symm }⟩
  split
  · unfold goneC
    rw [h.has, laterB_eqv h.gn]
    split
    · exact ⟨rfl, h⟩
    · split
      · exact ⟨rfl, h⟩
      · exact ⟨rfl, {
          st := by show delL R.staged _ = delL C.staged _; rw [h.st]
          bg := by show delL R.begun _ = delL C.begun _; rw [h.bg]
          tb := by show goneL R v = goneL C v; unfold goneL; rw [h.en, entsC_has, h.bg, h.tb]
          gn := rfl
          en := by
            show delL R.entries v.key = _
            rw [h.en]
            exact (entsC_del (D := goneV C v) rfl ne).symm
          rt := h.rt
          nd := h.nd }⟩
  split
  · unfold beginC
    rw [h.has, laterB_eqv h.gn]
    split
    · exact ⟨rfl, h⟩
    · split
      · exact ⟨rfl, h⟩
      · rw [h.bg]
        exact ⟨rfl, { h with gn := rfl, bg := rfl, en := h.en.trans (entsC_same (C := C) rfl).symm }⟩
  split
  · unfold refRetire retireC
    split
    · exact ⟨rfl, h⟩
    · refine ⟨rfl, ?_⟩
      show RelR { C with retired := putR C.retired v.cart } (if v.cart ∈ R.retired then R else { R with retired := R.retired ++ [v.cart] })
      split
      · rename_i hm
        have hr : ∀ n, n ∈ R.retired ↔ n ∈ putR C.retired v.cart := by
          intro n
          rw [mem_putR, h.rt]
          constructor
          · intro hn
            by_cases e : n = v.cart
            · exact .inr e
            · exact .inl ⟨hn, e⟩
          · rintro (hn | hn)
            · exact hn.1
            · rw [hn]
              exact (h.rt _).1 hm
        exact { h with en := h.en.trans (entsC_same (C := C) rfl).symm, rt := hr }
      · rename_i hm
        have hr : ∀ n, n ∈ R.retired ++ [v.cart] ↔ n ∈ putR C.retired v.cart := by
          intro n
          rw [mem_putR, List.mem_append, List.mem_singleton, h.rt]
          constructor
          · rintro (hn | hn)
            · by_cases e : n = v.cart
              · exact .inr e
              · exact .inl ⟨hn, e⟩
            · exact .inr hn
          · rintro (hn | hn)
            · exact .inl hn.1
            · exact .inr hn
        have hd : (R.retired ++ [v.cart]).Nodup := by
          refine List.nodup_append.2 ⟨h.nd, by simp, fun a ha b hb e => ?_⟩
          have hb' : b = v.cart := by simpa using hb
          rw [e, hb'] at ha
          exact hm ha
        exact { h with en := h.en.trans (entsC_same (C := C) rfl).symm, rt := hr, nd := hd }
  split
  · unfold tombC tombI
    rw [h.tb, h.gn]
    split
    · exact ⟨rfl, { h with tb := rfl, gn := rfl, en := h.en.trans (entsC_same (C := C) rfl).symm }⟩
    · split
      · exact ⟨rfl, { h with tb := rfl, gn := rfl, en := h.en.trans (entsC_same (C := C) rfl).symm }⟩
      · exact ⟨rfl, h⟩
  · exact ⟨rfl, h⟩
theorem rel_keys {C R : CV} (h : RelR C R) : keysC R = keysC C := by
  unfold keysC
  rw [h.st, h.en, entsC_fst]
  exact mergeSort_of_perm (((List.mergeSort_perm _ _)).append_left _)
theorem rel_notes {C R : CV} (h : RelR C R) (nr : C.retired.Nodup) (ne : (C.entries.map Prod.fst).Nodup) : notesC R = notesC C := by
  have hg : gensC R = gensC C := by rw [gensC_eq, gensC_eq, h.bg, h.st]
  have he : entsC R = entsC C := by
    have hn : (R.entries.map Prod.fst).Nodup := by rw [h.en]; exact entsC_nd ne
    refine sorted_eq (entsC_sorted hn) (entsC_sorted ne) (fun q => ?_)
    rw [entsC_mem_iff hn, h.en]
  unfold notesC
  rw [h.st, hg, h.gn, h.tb, he, show sortI R.retired = sortI C.retired from mergeSort_of_perm_i ((List.perm_ext_iff_of_nodup h.nd nr).2 h.rt)]
theorem rel_used {C R : CV} (h : RelR C R) (hn : (C.staged.map Prod.fst).Nodup) : rusedL R = usedC C := by
  unfold rusedL usedC
  rw [h.st, List.map_map]
  congr 1
  refine List.map_congr_left fun q hq => ?_
  show q.2.length = (getL [] C.staged q.1).length
  rw [getL_at [] hn (k := q.1) (v := q.2) hq]
end Go.Proofs.YtmkccblcmiflfaaGreat

namespace Go.Proofs.YtmkccblcmiflfaaGreat
open Go.RowKit Go.Maps Go.WideMaps

section
set_option maxHeartbeats 4000000
set_option maxRecDepth 8000
theorem cGroups13 (n : Int) (w : World) (h0 : 0 ≤ n) (h1 : n ≤ 512) :
    Calls Tryz.prog 20 #[.int .i64 n] w fun e w' => e = .returned (.int .i64 (groupsI n)) ∧ w = w' := by
  go_enter Tryz.func20, Tryz.ntmps20
  go_wp2_with fail
  go_loopw [3] (fun i wx => ∃ k : Nat, i = .int .i64 k ∧ 1 ≤ k ∧ k ≤ 4 ∧ (k = 1 ∨ ((k : Int) - 1) * 128 < n) ∧ wx = w) (fun i _ => 5 - (intOf i).toNat)
  case atStart => exact ⟨1, rfl, Nat.le_refl _, by omega, .inl rfl, rfl⟩
  case round =>
    obtain ⟨k, rfl, hk1, hk4, hk, rfl⟩ := hrel
    by_cases hlt : (k : Int) * 128 < n
    · have d1 : decide ((k : Int) * 128 < n) = true := by simpa using hlt
      go_wp2_with fail
      go_roundw
      case rel => exact ⟨k + 1, by go_num, by omega, by omega, .inr (by omega), by trivial⟩
      case measure => simp [intOf]; omega
    · have d1 : decide ((k : Int) * 128 < n) = false := by simpa using hlt
      go_wp2_with fail
      go_ret
      exact ⟨ret_i (by unfold groupsI; omega), rfl⟩
theorem cUsed (F : Nat → Prop) (p N : Nat) (C : CV) (w : World) (h : CatAt F w p N C) (hN : N ≤ 100000) :
    Calls Tryz.prog 22 #[.pointer (some ⟨p, 0, none⟩)] w fun e w' => e = .returned (.int .i64 (usedC C)) ∧ Below w.heap.size w w' := by
  have H := Lib.hid h
  have WF := Lib.hid h.facts.1
  obtain ⟨sn, hsn⟩ : ∃ sn, C.staged.length = sn := ⟨_, rfl⟩
  have hsm : sn ≤ 100000 := by
    have h1 := h.facts.1.staged
    omega
  have SN := Lib.hid hsn
  clear h hsn
  go_enter Tryz.func22, Tryz.ntmps22
  go_wp2_with fail
  refine (cStaged F p N C _ H.out hN).mono ?_
  rintro e w1 ⟨sv, rfl, hos, hb1⟩
  rw [SN.out] at hos
  obtain ⟨SA, rfl, hsr⟩ := hos.strs (by rw [List.length_map]; exact SN.out) (by simp only [maxLen]; omega)
  have S1 := Lib.hid hsr
  have B1 := Lib.hid hb1
  have hsum := used_le WF.out (C.staged.map Prod.fst)
  rw [List.length_map, SN.out] at hsum
  clear hos hsr hb1
  go_wp2_with fail
  go_loopw [3, 11] (fun v i wx => ∃ j : Nat, i = .int .i64 j ∧ j ≤ sn ∧ v = .int .i64 (((((C.staged.map Prod.fst).take j).map (dl C)).sum : Nat) : Int) ∧ Below w.heap.size w wx ∧ Below w1.heap.size w1 wx) (fun _ i _ => sn - (intOf i).toNat)
  case atStart => exact ⟨0, rfl, Nat.zero_le _, rfl, B1.out, Below.refl _ _⟩
  case round =>
    obtain ⟨j, rfl, hj, rfl, hbl, hbs⟩ := hrel
    have BL := Lib.hid hbl
    have BS := Lib.hid hbs
    have hz := hbl.size
    have hz1 := hbs.size
    by_cases hlt : j < sn
    · have d1 : decide (j < sn) = true := by simpa using hlt
      obtain ⟨key, hk⟩ : ∃ x, (C.staged.map Prod.fst)[j]? = some x := ⟨_, List.getElem?_eq_getElem (by rw [S1.out.len]; exact hlt)⟩
      obtain ⟨b, off, rfl, hc⟩ : ∃ b off, SA = some ⟨b, off, none⟩ ∧ ∀ j u, (strVals (C.staged.map Prod.fst))[j]? = some u → wr.cell? ⟨b, off + j, none⟩ = some u := by
        rcases S1.out.row.below hbs with ⟨h0, _⟩ | ⟨b, off, h1, h2⟩
        · omega
        · exact ⟨b, off, h1, h2⟩
      have x0 : wr.cell? ⟨b, off + j, none⟩ = some (encStr key) := hc _ _ (strVals_get hk)
      have HT := Lib.hid (sum_take (dl C) hk)
      have hsum2 := used_le WF.out ((C.staged.map Prod.fst).take j)
      rw [List.length_take, List.length_map, SN.out] at hsum2
      have hd5 := dl_le WF.out key
      generalize hsj : (((C.staged.map Prod.fst).take j).map (dl C)).sum = sj at *
      have hs2 : sj ≤ 512 * 100000 := by
        have : min j sn ≤ sn := Nat.min_le_right _ _
        omega
      clear hbl hbs hc hk hsj hsum2
      go_wp2_with fail
      refine (cData F p N C key _ (H.out.below BL.out)).mono ?_
      rintro e w2 ⟨hdt, hb2⟩
      obtain ⟨B, rfl⟩ := data_len WF.out hdt
      have B2 := Lib.hid hb2
      clear hdt hb2
      generalize hdk : dl C key = dk at *
      go_wp2_with fail
      go_roundw
      case rel => exact ⟨j + 1, by go_num, hlt, by rw [HT.out]; go_num, BL.out.trans (B2.out.mono hz), BS.out.trans (B2.out.mono hz1)⟩
      case measure => simp [intOf]; omega
    · have d1 : decide (j < sn) = false := by simpa using hlt
      obtain rfl : j = sn := by omega
      have hfull : (((C.staged.map Prod.fst).take j).map (dl C)).sum = usedC C := by
        rw [List.take_of_length_le (by rw [S1.out.len]; exact Nat.le_refl _)]
        rfl
      rw [hfull]
      go_wp2_with fail
      go_ret
      exact ⟨rfl, BL.out⟩
end
end Go.Proofs.YtmkccblcmiflfaaGreat

namespace Go.Proofs.YtmkccblcmiflfaaGreat
open Go.RowKit Go.Maps Go.WideMaps

def waitVals (L : List (Str × Str)) : List Value := L.flatMap fun q => [encStr q.1, encStr q.2]
def markVals (L : List (Str × Int)) : List Value := L.flatMap fun q => [encStr q.1, .int .i64 q.2]
def ent5 (l : List EntR) : List Value := l.flatMap fun r => [encStr r.key, .int .i64 r.e.gen, .int .i64 r.e.size, encStr r.e.sum, .slice r.A r.n r.c]
theorem flatm_get {α : Type} {f : α → List Value} {m : Nat} (hf : ∀ x, (f x).length = m) {L : List α} {j : Nat} {x : α} (h : L[j]? = some x) (t : Nat) (ht : t < m) : (L.flatMap f)[j * m + t]? = (f x)[t]? := by
  induction L generalizing j with
  | nil => simp at h
  | cons y L ih =>
    rw [List.flatMap_cons]
    cases j with
    | zero =>
      obtain rfl : y = x := by simpa using h
      rw [List.getElem?_append_left (by rw [hf]; omega)]
      congr 1
      omega
    | succ j =>
      rw [List.getElem?_append_right (by rw [hf, Nat.succ_mul]; omega), hf, show (j + 1) * m + t - m = j * m + t by rw [Nat.succ_mul]; omega]
      exact ih (by simpa using h)
theorem wait_get {L : List (Str × Str)} {j : Nat} {x : Str × Str} (h : L[j]? = some x) : (waitVals L)[j * 2]? = some (encStr x.1) ∧ (waitVals L)[j * 2 + 1]? = some (encStr x.2) :=
  ⟨flatm_get (f := fun q : Str × Str => [encStr q.1, encStr q.2]) (m := 2) (fun _ => rfl) h 0 (by omega), flatm_get (f := fun q : Str × Str => [encStr q.1, encStr q.2]) (m := 2) (fun _ => rfl) h 1 (by omega)⟩
theorem mark_get {L : List (Str × Int)} {j : Nat} {x : Str × Int} (h : L[j]? = some x) : (markVals L)[j * 2]? = some (encStr x.1) ∧ (markVals L)[j * 2 + 1]? = some (.int .i64 x.2) :=
  ⟨flatm_get (f := fun q : Str × Int => [encStr q.1, .int .i64 q.2]) (m := 2) (fun _ => rfl) h 0 (by omega), flatm_get (f := fun q : Str × Int => [encStr q.1, .int .i64 q.2]) (m := 2) (fun _ => rfl) h 1 (by omega)⟩
theorem ent5_get {L : List EntR} {j : Nat} {r : EntR} (h : L[j]? = some r) (t : Nat) (ht : t < 5) : (ent5 L)[j * 5 + t]? = ([encStr r.key, .int .i64 r.e.gen, .int .i64 r.e.size, encStr r.e.sum, .slice r.A r.n r.c] : List Value)[t]? :=
  flatm_get (f := fun r : EntR => [encStr r.key, .int .i64 r.e.gen, .int .i64 r.e.size, encStr r.e.sum, .slice r.A r.n r.c]) (m := 5) (fun _ => rfl) h t ht
/-- The document's catalog at p; all its blocks lie in F. -/
structure RefR (F : Nat → Prop) (w : World) (p N : Nat) (R : CV) (sw sh sb st sr : Value) (ER : List EntR) : Prop where
  blk : Blk w p 55 #[sw, sh, sb, st, sr, .int .i64 R.gen]
  fp : F p
  wait : OwnRow F w 88 2 sw R.staged.length (waitVals R.staged)
  here : OwnRow F w 43 5 sh R.entries.length (ent5 ER)
  ents : ER.map (fun r => (r.key, r.e)) = R.entries
  pls : ∀ r ∈ ER, EntOk F w r
  beg : OwnRow F w 91 2 sb R.begun.length (markVals R.begun)
  tmb : OwnRow F w 91 2 st R.tombs.length (markVals R.tombs)
  ret : OwnRow F w 3 1 sr R.retired.length (intVals R.retired)
  lens : R.staged.length ≤ N ∧ R.entries.length ≤ N ∧ R.begun.length ≤ N ∧ R.tombs.length ≤ N ∧ R.retired.length ≤ N
def RefAt (F : Nat → Prop) (w : World) (p N : Nat) (R : CV) : Prop := ∃ sw sh sb st sr ER, RefR F w p N R sw sh sb st sr ER
section
variable {F G : Nat → Prop} {w w' : World} {p N : Nat} {R : CV} {sw sh sb st sr : Value} {ER : List EntR}
theorem RefR.mono (h : RefR F w p N R sw sh sb st sr ER) (hs : ∀ k, k < w.heap.size → F k → G k) : RefR G w p N R sw sh sb st sr ER :=
  { h with
    fp := hs p h.blk.size h.fp
    wait := (OwnRow.owning ..).mono _ _ _ h.wait hs
    here := (OwnRow.owning ..).mono _ _ _ h.here hs
    pls := fun r hr => (OwnRow.owning ..).mono _ _ _ (h.pls r hr) hs
    beg := (OwnRow.owning ..).mono _ _ _ h.beg hs
    tmb := (OwnRow.owning ..).mono _ _ _ h.tmb hs
    ret := (OwnRow.owning ..).mono _ _ _ h.ret hs }
theorem RefR.keep (h : RefR F w p N R sw sh sb st sr ER) (hz : w.heap.size ≤ w'.heap.size) (hk : ∀ k, k < w.heap.size → F k → w'.heap[k]? = w.heap[k]?) : RefR F w' p N R sw sh sb st sr ER :=
  { h with
    blk := h.blk.of_eq (hk p h.blk.size h.fp)
    wait := (OwnRow.owning ..).keep _ _ _ h.wait hz hk
    here := (OwnRow.owning ..).keep _ _ _ h.here hz hk
    pls := fun r hr => (OwnRow.owning ..).keep _ _ _ (h.pls r hr) hz hk
    beg := (OwnRow.owning ..).keep _ _ _ h.beg hz hk
    tmb := (OwnRow.owning ..).keep _ _ _ h.tmb hz hk
    ret := (OwnRow.owning ..).keep _ _ _ h.ret hz hk }
theorem RefAt.owning (p N : Nat) (R : CV) : Owning fun F w => RefAt F w p N R where
  mono := fun _ _ _ ⟨sw, sh, sb, st, sr, ER, h⟩ hs => ⟨sw, sh, sb, st, sr, ER, h.mono hs⟩
  keep := fun _ _ _ ⟨sw, sh, sb, st, sr, ER, h⟩ hz hk => ⟨sw, sh, sb, st, sr, ER, h.keep hz hk⟩
theorem RefAt.below (h : RefAt F w p N R) (hb : Below w.heap.size w w') : RefAt F w' p N R := (RefAt.owning p N R).below h hb
end
theorem ent_at {ER : List EntR} {E : List (Str × EntV)} (h : ER.map (fun r => (r.key, r.e)) = E) {j : Nat} {x : Str × EntV} (hx : E[j]? = some x) : ∃ r, ER[j]? = some r ∧ encStr r.key = encStr x.1 := by
  rw [← h, List.getElem?_map] at hx
  cases hr : ER[j]? with
  | none => rw [hr] at hx; cases hx
  | some r =>
    rw [hr] at hx
    injection hx with hx
    exact ⟨r, rfl, by rw [← hx]⟩
/-- What began tells: the last mark's generation. -/
def begG (L : List (Str × Int)) (key : Str) : Int := L.foldl (fun g q => if q.1 = key then q.2 else g) 0
theorem begG_snoc (L : List (Str × Int)) (q : Str × Int) (key : Str) : begG (L ++ [q]) key = if q.1 = key then q.2 else begG L key := by
  unfold begG
  rw [List.foldl_append]
  rfl
theorem begG_from {key : Str} : ∀ (L : List (Str × Int)) (g : Int), (∀ q ∈ L, 1 ≤ q.2) → (hasL L key = true → 1 ≤ L.foldl (fun g q => if q.1 = key then q.2 else g) g) ∧ (hasL L key = false → L.foldl (fun g q => if q.1 = key then q.2 else g) g = g)
  | [], g, _ => ⟨fun h => (by cases h), fun _ => rfl⟩
  | x :: L, g, h => by
    obtain ⟨i1, i2⟩ := begG_from L (if x.1 = key then x.2 else g) (fun q hq => h q (List.mem_cons_of_mem _ hq))
    have hx := h x (by simp)
    have hc : hasL (x :: L) key = (decide (x.1 = key) || hasL L key) := by simp [hasL]
    rw [hc, List.foldl_cons]
    cases hh : hasL L key with
    | true => exact ⟨fun _ => i1 hh, fun h => by simp at h⟩
    | false =>
      rw [i2 hh]
      by_cases e : x.1 = key
      · rw [if_pos e]
        exact ⟨fun _ => hx, fun h => by simp [e] at h⟩
      · rw [if_neg e]
        exact ⟨fun h => by simp [e] at h, fun _ => rfl⟩
theorem begG_pos {key : Str} (L : List (Str × Int)) (h : ∀ q ∈ L, 1 ≤ q.2) : decide (0 < begG L key) = hasL L key := by
  obtain ⟨i1, i2⟩ := begG_from (key := key) L 0 h
  cases hh : hasL L key with
  | true =>
    have := i1 hh
    exact decide_eq_true (by unfold begG; omega)
  | false =>
    have := i2 hh
    exact decide_eq_false (by unfold begG; omega)
def rusedC (R : CV) : Nat := (R.staged.map fun q => q.2.length).sum
section
set_option maxHeartbeats 4000000
set_option maxRecDepth 8000
theorem rNamed (key : Str) (w : World) (hk : key.length ≤ maxLen) : Calls Tryz.prog 51 #[encStr key] w fun e w' => e = .returned (.bool (decide (1 ≤ key.length ∧ key.length ≤ 16))) ∧ w = w' := by
  have h63 : key.length ≤ 9223372036854775807 := by simpa [maxLen] using hk
  go_enter Tryz.func51, Tryz.ntmps51
  by_cases h1 : 1 ≤ key.length
  · have d1 : decide (1 ≤ key.length) = true := by simpa using h1
    have d1' : decide ((1 : Int) ≤ (key.length : Int)) = true := by simp; omega
    by_cases h2 : key.length ≤ 16
    · have d2 : decide (key.length ≤ 16) = true := by simpa using h2
      have d2' : decide ((key.length : Int) ≤ 16) = true := by simp; omega
      go_wp2_with fail
      go_ret
      exact ⟨ret_b (by simp [h1, h2]), rfl⟩
    · have d2 : decide (key.length ≤ 16) = false := by simpa using h2
      have d2' : decide ((key.length : Int) ≤ 16) = false := by simp; omega
      go_wp2_with fail
      go_ret
      exact ⟨ret_b (by simp [h2]), rfl⟩
  · have d1 : decide (1 ≤ key.length) = false := by simpa using h1
    have d1' : decide ((1 : Int) ≤ (key.length : Int)) = false := by simp; omega
    go_wp2_with fail
    go_ret
    exact ⟨ret_b (by simp [h1]), rfl⟩
theorem rLater (F : Nat → Prop) (p N : Nat) (R : CV) (gen : Int) (w : World) (h : RefAt F w p N R) :
    Calls Tryz.prog 53 #[.pointer (some ⟨p, 0, none⟩), .int .i64 gen] w fun e w' => e = .returned (.bool (laterB R gen)) ∧ w = w' := by
  obtain ⟨sw, sh, sb, st, sr, ER, hr⟩ := h
  have c5 : w.cell? ⟨p, 5, none⟩ = some (.int .i64 R.gen) := hr.blk.cell 5
  clear hr
  go_enter Tryz.func53, Tryz.ntmps53
  by_cases h1 : R.gen < gen
  · have d1 : decide (R.gen < gen) = true := by simpa using h1
    by_cases h2 : gen ≤ 1099511627776
    · have d2 : decide (gen ≤ 1099511627776) = true := by simpa using h2
      go_wp2_with fail
      go_ret
      exact ⟨ret_b (by simp [laterB, h1, h2]), rfl⟩
    · have d2 : decide (gen ≤ 1099511627776) = false := by simpa using h2
      go_wp2_with fail
      go_ret
      exact ⟨ret_b (by unfold laterB; simp [h2]), rfl⟩
  · have d1 : decide (R.gen < gen) = false := by simpa using h1
    go_wp2_with fail
    go_ret
    exact ⟨ret_b (by unfold laterB; have h3 : ¬ R.gen < gen := (by omega); simp [h3]), rfl⟩
theorem rWaits (F : Nat → Prop) (p N : Nat) (R : CV) (key : Str) (w : World) (h : RefAt F w p N R) (hN : N ≤ 100000) :
    Calls Tryz.prog 26 #[.pointer (some ⟨p, 0, none⟩), encStr key] w fun e w' => e = .returned (.int .i64 (idxP (isKey key) R.staged)) ∧ w = w' := by
  obtain ⟨sw, sh, sb, st, sr, ER, hr⟩ := h
  obtain ⟨B, c, rfl, hnc, hcm, hB⟩ := own_form hr.wait.1
  have c0 : w.cell? ⟨p, 0, none⟩ = some (.slice B R.staged.length c) := hr.blk.cell 0
  have hn : R.staged.length ≤ 100000 := by have := hr.lens; omega
  have HC := Lib.hid (show ∀ (j : Nat) x, R.staged[j]? = some x → ∃ g, B = some ⟨g, 0, none⟩ ∧ w.cell? ⟨g, j * 2, none⟩ = some (encStr x.1) from fun j x hx => by
    have hlt : j < R.staged.length := (List.getElem?_eq_some_iff.1 hx).1
    rcases hB with ⟨_, h0, _⟩ | ⟨g, rfl⟩
    · omega
    · exact ⟨g, rfl, hr.wait.row.cell (wait_get hx).1⟩)
  generalize hnl : R.staged.length = n at *
  have HNL := Lib.hid hnl
  clear hr hnl hB
  go_enter Tryz.func26, Tryz.ntmps26
  go_wp2_with fail
  go_loopw [5] (fun i wx => ∃ j : Nat, i = .int .i64 j ∧ j ≤ n ∧ (∀ (i : Nat) y, i < j → R.staged[i]? = some y → isKey key y = false) ∧ wx = w) (fun i _ => n - (intOf i).toNat)
  case atStart => exact ⟨0, rfl, Nat.zero_le _, fun i y hi _ => by omega, rfl⟩
  case round =>
    obtain ⟨j, rfl, hj, hno, rfl⟩ := hrel
    have NO := Lib.hid hno
    clear hno
    by_cases hlt : j < n
    · have d1 : decide (j < n) = true := by simpa using hlt
      obtain ⟨x, hx⟩ : ∃ x, R.staged[j]? = some x := ⟨_, List.getElem?_eq_getElem (by rw [HNL.out]; exact hlt)⟩
      obtain ⟨g, rfl, k0⟩ := HC.out j x hx
      have HX := Lib.hid hx
      clear hx
      by_cases hk : x.1 = key
      · have d2 : (x.1 == key) = true := by simpa using hk
        have hat := idxP_at HX.out (show isKey key x = true by unfold isKey; simpa using hk) NO.out
        clear hk
        go_wp2_with fail
        go_ret
        exact ⟨ret_i hat.symm, rfl⟩
      · have d2 : (x.1 == key) = false := by simpa using hk
        have HK := Lib.hid (show isKey key x = false by unfold isKey; simpa using hk)
        clear hk
        go_wp2_with fail
        go_roundw
        case rel => exact ⟨j + 1, by go_num, hlt, fun i y hi hy => by
          rcases Nat.lt_succ_iff_lt_or_eq.1 hi with h | h
          · exact NO.out i y h hy
          · rw [h, HX.out] at hy
            cases hy
            exact HK.out, by trivial⟩
        case measure => simp [intOf]; omega
    · have d1 : decide (j < n) = false := by simpa using hlt
      have hnone := idxP_none (l := R.staged) (p := isKey key) (fun i y hy => NO.out i y (by have := (List.getElem?_eq_some_iff.1 hy).1; rw [HNL.out] at this; omega) hy)
      go_wp2_with fail
      go_ret
      exact ⟨ret_i hnone.symm, rfl⟩
theorem rIs (F : Nat → Prop) (p N : Nat) (R : CV) (key : Str) (w : World) (h : RefAt F w p N R) (hN : N ≤ 100000) :
    Calls Tryz.prog 27 #[.pointer (some ⟨p, 0, none⟩), encStr key] w fun e w' => e = .returned (.int .i64 (idxP (isKey key) R.entries)) ∧ w = w' := by
  obtain ⟨sw, sh, sb, st, sr, ER, hr⟩ := h
  obtain ⟨B, c, rfl, hnc, hcm, hB⟩ := own_form hr.here.1
  have c0 : w.cell? ⟨p, 1, none⟩ = some (.slice B R.entries.length c) := hr.blk.cell 1
  have hn : R.entries.length ≤ 100000 := by have := hr.lens; omega
  have HC := Lib.hid (show ∀ (j : Nat) x, R.entries[j]? = some x → ∃ g, B = some ⟨g, 0, none⟩ ∧ w.cell? ⟨g, j * 5, none⟩ = some (encStr x.1) from fun j x hx => by
    have hlt : j < R.entries.length := (List.getElem?_eq_some_iff.1 hx).1
    rcases hB with ⟨_, h0, _⟩ | ⟨g, rfl⟩
    · omega
    · exact ⟨g, rfl, by obtain ⟨r, hr1, hr2⟩ := ent_at hr.ents hx; have h1 := hr.here.row.cell (ent5_get hr1 0 (by omega)); simp only [Nat.add_zero] at h1; rw [hr2] at h1; exact h1⟩)
  generalize hnl : R.entries.length = n at *
  have HNL := Lib.hid hnl
  clear hr hnl hB
  go_enter Tryz.func27, Tryz.ntmps27
  go_wp2_with fail
  go_loopw [5] (fun i wx => ∃ j : Nat, i = .int .i64 j ∧ j ≤ n ∧ (∀ (i : Nat) y, i < j → R.entries[i]? = some y → isKey key y = false) ∧ wx = w) (fun i _ => n - (intOf i).toNat)
  case atStart => exact ⟨0, rfl, Nat.zero_le _, fun i y hi _ => by omega, rfl⟩
  case round =>
    obtain ⟨j, rfl, hj, hno, rfl⟩ := hrel
    have NO := Lib.hid hno
    clear hno
    by_cases hlt : j < n
    · have d1 : decide (j < n) = true := by simpa using hlt
      obtain ⟨x, hx⟩ : ∃ x, R.entries[j]? = some x := ⟨_, List.getElem?_eq_getElem (by rw [HNL.out]; exact hlt)⟩
      obtain ⟨g, rfl, k0⟩ := HC.out j x hx
      have HX := Lib.hid hx
      clear hx
      by_cases hk : x.1 = key
      · have d2 : (x.1 == key) = true := by simpa using hk
        have hat := idxP_at HX.out (show isKey key x = true by unfold isKey; simpa using hk) NO.out
        clear hk
        go_wp2_with fail
        go_ret
        exact ⟨ret_i hat.symm, rfl⟩
      · have d2 : (x.1 == key) = false := by simpa using hk
        have HK := Lib.hid (show isKey key x = false by unfold isKey; simpa using hk)
        clear hk
        go_wp2_with fail
        go_roundw
        case rel => exact ⟨j + 1, by go_num, hlt, fun i y hi hy => by
          rcases Nat.lt_succ_iff_lt_or_eq.1 hi with h | h
          · exact NO.out i y h hy
          · rw [h, HX.out] at hy
            cases hy
            exact HK.out, by trivial⟩
        case measure => simp [intOf]; omega
    · have d1 : decide (j < n) = false := by simpa using hlt
      have hnone := idxP_none (l := R.entries) (p := isKey key) (fun i y hy => NO.out i y (by have := (List.getElem?_eq_some_iff.1 hy).1; rw [HNL.out] at this; omega) hy)
      go_wp2_with fail
      go_ret
      exact ⟨ret_i hnone.symm, rfl⟩
theorem rHas (F : Nat → Prop) (p N : Nat) (R : CV) (key : Str) (w : World) (h : RefAt F w p N R) (hN : N ≤ 100000) :
    Calls Tryz.prog 25 #[.pointer (some ⟨p, 0, none⟩), encStr key] w fun e w' => e = .returned (.bool (hasC R key)) ∧ w = w' := by
  have H := Lib.hid h
  have hw : decide (0 ≤ idxP (isKey key) R.staged) = hasL R.staged key := by
    cases hh : hasL R.staged key with
    | false => have := idxP_neg.2 ((hasL_any R.staged key).symm.trans hh); exact decide_eq_false (by omega)
    | true => exact decide_eq_true (by
        have : ¬ idxP (isKey key) R.staged < 0 := fun e => by
          have h1 := idxP_neg.1 e
          rw [← hasL_any, hh] at h1
          cases h1
        omega)
  have hi : decide (0 ≤ idxP (isKey key) R.entries) = hasL R.entries key := by
    cases hh : hasL R.entries key with
    | false => have := idxP_neg.2 ((hasL_any R.entries key).symm.trans hh); exact decide_eq_false (by omega)
    | true => exact decide_eq_true (by
        have : ¬ idxP (isKey key) R.entries < 0 := fun e => by
          have h1 := idxP_neg.1 e
          rw [← hasL_any, hh] at h1
          cases h1
        omega)
  have HE := Lib.hid (show hasC R key = (hasL R.staged key || hasL R.entries key) by unfold hasC; exact Bool.or_comm _ _)
  clear h
  go_enter Tryz.func25, Tryz.ntmps25
  go_wp2_with fail
  refine (rWaits F p N R key _ H.out hN).mono ?_
  rintro e w1 ⟨rfl, rfl⟩
  cases hh : hasL R.staged key with
  | true =>
    rw [hh] at hw HE
    go_wp2_with fail
    go_ret
    exact ⟨ret_b (by rw [HE.out]; rfl), rfl⟩
  | false =>
    rw [hh] at hw HE
    go_wp2_with fail
    refine (rIs F p N R key _ H.out hN).mono ?_
    rintro e w1 ⟨rfl, rfl⟩
    go_wp2_with fail
    go_ret
    exact ⟨ret_b (by rw [HE.out]; rfl), rfl⟩
theorem rBegan (F : Nat → Prop) (p N : Nat) (R : CV) (key : Str) (w : World) (h : RefAt F w p N R) (hN : N ≤ 100000) :
    Calls Tryz.prog 54 #[.pointer (some ⟨p, 0, none⟩), encStr key] w fun e w' => e = .returned (.int .i64 (begG R.begun key)) ∧ w = w' := by
  obtain ⟨sw, sh, sb, st, sr, ER, hr⟩ := h
  obtain ⟨B, c, rfl, hnc, hcm, hB⟩ := own_form hr.beg.1
  have c0 : w.cell? ⟨p, 2, none⟩ = some (.slice B R.begun.length c) := hr.blk.cell 2
  have hn : R.begun.length ≤ 100000 := by have := hr.lens; omega
  have HC := Lib.hid (show ∀ (j : Nat) x, R.begun[j]? = some x → ∃ g, B = some ⟨g, 0, none⟩ ∧ w.cell? ⟨g, j * 2, none⟩ = some (encStr x.1) ∧ w.cell? ⟨g, j * 2 + 1, none⟩ = some (.int .i64 x.2) from fun j x hx => by
    have hlt : j < R.begun.length := (List.getElem?_eq_some_iff.1 hx).1
    rcases hB with ⟨_, h0, _⟩ | ⟨g, rfl⟩
    · omega
    · exact ⟨g, rfl, hr.beg.row.cell (mark_get hx).1, hr.beg.row.cell (mark_get hx).2⟩)
  generalize hnl : R.begun.length = n at *
  have HNL := Lib.hid hnl
  clear hr hnl hB
  go_enter Tryz.func54, Tryz.ntmps54
  go_wp2_with fail
  go_loopw [5, 6] (fun v i wx => ∃ j : Nat, i = .int .i64 j ∧ j ≤ n ∧ v = .int .i64 (begG (R.begun.take j) key) ∧ wx = w) (fun _ i _ => n - (intOf i).toNat)
  case atStart => exact ⟨0, rfl, Nat.zero_le _, rfl, rfl⟩
  case round =>
    obtain ⟨j, rfl, hj, rfl, rfl⟩ := hrel
    by_cases hlt : j < n
    · have d1 : decide (j < n) = true := by simpa using hlt
      obtain ⟨x, hx⟩ : ∃ x, R.begun[j]? = some x := ⟨_, List.getElem?_eq_getElem (by rw [HNL.out]; exact hlt)⟩
      obtain ⟨g, rfl, k0, k1⟩ := HC.out j x hx
      have HT := Lib.hid (show begG (R.begun.take (j + 1)) key = if x.1 = key then x.2 else begG (R.begun.take j) key by
        rw [List.take_add_one, hx, Option.toList_some, begG_snoc])
      clear hx
      generalize begG (R.begun.take j) key = bj at *
      by_cases hk : x.1 = key
      · have d2 : (x.1 == key) = true := by simpa using hk
        have HK := Lib.hid hk
        clear hk
        go_wp2_with fail
        go_roundw
        case rel => exact ⟨j + 1, by go_num, hlt, by rw [HT.out, if_pos HK.out], by trivial⟩
        case measure => simp [intOf]; omega
      · have d2 : (x.1 == key) = false := by simpa using hk
        have HK := Lib.hid hk
        clear hk
        go_wp2_with fail
        go_roundw
        case rel => exact ⟨j + 1, by go_num, hlt, by rw [HT.out, if_neg HK.out], by trivial⟩
        case measure => simp [intOf]; omega
    · have d1 : decide (j < n) = false := by simpa using hlt
      obtain rfl : j = n := by omega
      rw [List.take_of_length_le (by rw [HNL.out]; exact Nat.le_refl _)]
      go_wp2_with fail
      go_ret
      exact ⟨rfl, rfl⟩
end
end Go.Proofs.YtmkccblcmiflfaaGreat

namespace Go.Proofs.YtmkccblcmiflfaaGreat
open Go.RowKit Go.Maps Go.WideMaps

section
set_option maxHeartbeats 4000000
set_option maxRecDepth 8000
theorem rOut (F : Nat → Prop) (p N : Nat) (R : CV) (k : Int) (w : World) (h : RefAt F w p N R) (hN : N ≤ 100000) :
    Calls Tryz.prog 57 #[.pointer (some ⟨p, 0, none⟩), .int .i64 k] w fun e w' => e = .returned (.bool (decide (k ∈ R.retired))) ∧ w = w' := by
  obtain ⟨sw, sh, sb, st, sr, ER, hr⟩ := h
  obtain ⟨B, c, rfl, hnc, hcm, hB⟩ := own_form hr.ret.1
  have c0 : w.cell? ⟨p, 4, none⟩ = some (.slice B R.retired.length c) := hr.blk.cell 4
  have hn : R.retired.length ≤ 100000 := by have := hr.lens; omega
  have HC := Lib.hid (show ∀ (j : Nat) x, R.retired[j]? = some x → ∃ g, B = some ⟨g, 0, none⟩ ∧ w.cell? ⟨g, j, none⟩ = some (.int .i64 x) from fun j x hx => by
    have hlt : j < R.retired.length := (List.getElem?_eq_some_iff.1 hx).1
    rcases hB with ⟨_, h0, _⟩ | ⟨g, rfl⟩
    · omega
    · exact ⟨g, rfl, hr.ret.row.cell (by unfold intVals; rw [List.getElem?_map, hx]; rfl)⟩)
  generalize hnl : R.retired.length = n at *
  have HNL := Lib.hid hnl
  clear hr hnl hB
  go_enter Tryz.func57, Tryz.ntmps57
  go_wp2_with fail
  go_loopw [5] (fun i wx => ∃ j : Nat, i = .int .i64 j ∧ j ≤ n ∧ k ∉ R.retired.take j ∧ wx = w) (fun i _ => n - (intOf i).toNat)
  case atStart => exact ⟨0, rfl, Nat.zero_le _, by simp, rfl⟩
  case round =>
    obtain ⟨j, rfl, hj, hno, rfl⟩ := hrel
    have NO := Lib.hid hno
    clear hno
    by_cases hlt : j < n
    · have d1 : decide (j < n) = true := by simpa using hlt
      obtain ⟨x, hx⟩ : ∃ x, R.retired[j]? = some x := ⟨_, List.getElem?_eq_getElem (by rw [HNL.out]; exact hlt)⟩
      obtain ⟨g, rfl, k0⟩ := HC.out j x hx
      have HX := Lib.hid hx
      clear hx
      by_cases hk : x = k
      · have d2 : (x == k) = true := by simpa using hk
        have hat := decide_eq_true (show k ∈ R.retired from hk ▸ List.mem_of_getElem? HX.out)
        clear hk
        go_wp2_with fail
        go_ret
        exact ⟨by first | rfl | exact ret_b hat.symm, rfl⟩
      · have d2 : (x == k) = false := by simpa using hk
        have HK := Lib.hid hk
        clear hk
        go_wp2_with fail
        go_roundw
        case rel => exact ⟨j + 1, by go_num, hlt, by
          rw [List.take_add_one, HX.out, Option.toList_some, List.mem_append, List.mem_singleton]
          exact fun h => h.elim NO.out (fun e => HK.out e.symm), by trivial⟩
        case measure => simp [intOf]; omega
    · have d1 : decide (j < n) = false := by simpa using hlt
      have hno := NO.out
      rw [List.take_of_length_le (by rw [HNL.out]; omega)] at hno
      have hat := decide_eq_false hno
      go_wp2_with fail
      go_ret
      exact ⟨by first | rfl | exact ret_b hat.symm, rfl⟩
theorem rUsed (F : Nat → Prop) (p N : Nat) (R : CV) (w : World) (h : RefAt F w p N R) (hN : N ≤ 100000) (hd : ∀ q ∈ R.staged, q.2.length ≤ 512) :
    Calls Tryz.prog 60 #[.pointer (some ⟨p, 0, none⟩)] w fun e w' => e = .returned (.int .i64 (rusedC R)) ∧ w = w' := by
  obtain ⟨sw, sh, sb, st, sr, ER, hr⟩ := h
  obtain ⟨B, c, rfl, hnc, hcm, hB⟩ := own_form hr.wait.1
  have c0 : w.cell? ⟨p, 0, none⟩ = some (.slice B R.staged.length c) := hr.blk.cell 0
  have hn : R.staged.length ≤ 100000 := by have := hr.lens; omega
  have HC := Lib.hid (show ∀ (j : Nat) x, R.staged[j]? = some x → ∃ g, B = some ⟨g, 0, none⟩ ∧ w.cell? ⟨g, j * 2 + 1, none⟩ = some (encStr x.2) from fun j x hx => by
    have hlt : j < R.staged.length := (List.getElem?_eq_some_iff.1 hx).1
    rcases hB with ⟨_, h0, _⟩ | ⟨g, rfl⟩
    · omega
    · exact ⟨g, rfl, hr.wait.row.cell (wait_get hx).2⟩)
  have HD := Lib.hid hd
  generalize hnl : R.staged.length = n at *
  have HNL := Lib.hid hnl
  clear hr hnl hB hd
  go_enter Tryz.func60, Tryz.ntmps60
  go_wp2_with fail
  go_loopw [3, 4] (fun v i wx => ∃ j : Nat, i = .int .i64 j ∧ j ≤ n ∧ v = .int .i64 ((((R.staged.take j).map fun q => q.2.length).sum : Nat) : Int) ∧ wx = w) (fun _ i _ => n - (intOf i).toNat)
  case atStart => exact ⟨0, rfl, Nat.zero_le _, rfl, rfl⟩
  case round =>
    obtain ⟨j, rfl, hj, rfl, rfl⟩ := hrel
    by_cases hlt : j < n
    · have d1 : decide (j < n) = true := by simpa using hlt
      obtain ⟨x, hx⟩ : ∃ x, R.staged[j]? = some x := ⟨_, List.getElem?_eq_getElem (by rw [HNL.out]; exact hlt)⟩
      obtain ⟨g, rfl, k0⟩ := HC.out j x hx
      have HT := Lib.hid (sum_take (fun q : Str × Str => q.2.length) hx)
      have hs := sum_le (fun q : Str × Str => q.2.length) 512 (R.staged.take j) (fun q hq => HD.out q (List.mem_of_mem_take hq))
      rw [List.length_take, HNL.out] at hs
      have hx5 := HD.out x (List.mem_of_getElem? hx)
      have hmin : min j n ≤ n := Nat.min_le_right _ _
      generalize ((R.staged.take j).map fun q => q.2.length).sum = sj at *
      clear hx
      go_wp2_with fail
      go_roundw
      case rel => exact ⟨j + 1, by go_num, hlt, by rw [HT.out]; go_num, by trivial⟩
      case measure => simp [intOf]; omega
    · have d1 : decide (j < n) = false := by simpa using hlt
      obtain rfl : j = n := by omega
      have hfull : ((R.staged.take j).map fun q => q.2.length).sum = rusedC R := by
        rw [List.take_of_length_le (by rw [HNL.out]; exact Nat.le_refl _)]
        rfl
      rw [hfull]
      go_wp2_with fail
      go_ret
      exact ⟨rfl, rfl⟩
end
end Go.Proofs.YtmkccblcmiflfaaGreat

namespace Go.Proofs.YtmkccblcmiflfaaGreat
open Go.RowKit Go.Maps Go.WideMaps

theorem mark_info : (Tryz.prog.info? 91).map (fun i => (i.zero, i.size, i.bytes)) = some (some (.agg #[.string ⟨#[]⟩, .int .i64 0]), 2, 24) := by kernel_rfl
theorem markVals_len (L : List (Str × Int)) : (markVals L).length = L.length * 2 := by
  induction L with
  | nil => rfl
  | cons x L ih => simp only [markVals, List.flatMap_cons, List.length_append, List.length_cons, List.length_nil] at *; omega
theorem markVals_app (L M : List (Str × Int)) : markVals (L ++ M) = markVals L ++ markVals M := by simp [markVals]
theorem waitVals_len (L : List (Str × Str)) : (waitVals L).length = L.length * 2 := by
  induction L with
  | nil => rfl
  | cons x L ih => simp only [waitVals, List.flatMap_cons, List.length_append, List.length_cons, List.length_nil] at *; omega
theorem waitVals_app (L M : List (Str × Str)) : waitVals (L ++ M) = waitVals L ++ waitVals M := by simp [waitVals]
theorem delL_take {L : List (Str × Int)} {j : Nat} {x : Str × Int} (h : L[j]? = some x) (key : Str) : delL (L.take (j + 1)) key = if x.1 = key then delL (L.take j) key else delL (L.take j) key ++ [x] := by
  rw [List.take_add_one, h, Option.toList_some]
  unfold delL
  rw [List.filter_append]
  by_cases e : x.1 = key <;> simp [e]
section
set_option maxHeartbeats 4000000
set_option maxRecDepth 8000
theorem rWithout (B : Option Addr) (n c : Nat) (L : List (Str × Int)) (key : Str) (w : World) (hL : L.length = n) (hn : n ≤ 100000) (hnc : n ≤ c)
    (hrow : ∀ (j : Nat) x, L[j]? = some x → ∃ g, B = some ⟨g, 0, none⟩ ∧ g < w.heap.size ∧ w.cell? ⟨g, j * 2, none⟩ = some (encStr x.1) ∧ w.cell? ⟨g, j * 2 + 1, none⟩ = some (.int .i64 x.2)) :
    Calls Tryz.prog 55 #[.slice B n c, encStr key] w fun e w' => ∃ v, e = .returned v ∧ w'.ownsRow w.heap.size 91 2 v (delL L key).length (markVals (delL L key)) ∧ Below w.heap.size w w' := by
  have HC := Lib.hid hrow
  have HL := Lib.hid hL
  obtain ⟨i0, hi0, hz0, hz1, hz2⟩ := info_parts mark_info
  clear hrow hL
  go_enter Tryz.func55, Tryz.ntmps55
  go_wp2_with fail
  go_loopw [5, 6] (fun v i wx => ∃ j : Nat, i = .int .i64 j ∧ j ≤ n ∧ wx.ownsRow w.heap.size 91 2 v (delL (L.take j) key).length (markVals (delL (L.take j) key)) ∧ Below w.heap.size w wx) (fun _ i _ => n - (intOf i).toNat)
  case atStart => exact ⟨0, rfl, Nat.zero_le _, by exact own_made w _ 2 rfl (Nat.le_refl _), (Below.refl _ _).alloc (Nat.le_refl _) _⟩
  case round =>
    obtain ⟨j, rfl, hj, hown, hbl⟩ := hrel
    obtain ⟨wo, rfl⟩ : ∃ wo : World, wo = wr := ⟨_, rfl⟩
    have OW := Lib.hid hown
    have BL := Lib.hid hbl
    have hz := hbl.size
    obtain ⟨A1, k1, rfl, hn1, hc1, hA1⟩ := own_form hown
    have hdl : (delL (L.take j) key).length ≤ j := by
      have h1 := List.length_filter_le (fun q : Str × Int => !decide (q.1 = key)) (L.take j)
      rw [List.length_take, HL.out] at h1
      exact Nat.le_trans h1 (Nat.min_le_left _ _)
    by_cases hlt2 : j < n
    · have d1 : decide (j < n) = true := by simpa using hlt2
      obtain ⟨x, hx⟩ : ∃ x, L[j]? = some x := ⟨_, List.getElem?_eq_getElem (by rw [HL.out]; exact hlt2)⟩
      obtain ⟨g, rfl, hg, k0, k1'⟩ := HC.out j x hx
      have q0 : wo.cell? ⟨g, j * 2, none⟩ = some (encStr x.1) := (hbl.cell (p := ⟨g, j * 2, none⟩) hg).trans k0
      have q1 : wo.cell? ⟨g, j * 2 + 1, none⟩ = some (.int .i64 x.2) := (hbl.cell (p := ⟨g, j * 2 + 1, none⟩) hg).trans k1'
      have HT := Lib.hid (delL_take hx key)
      clear hown hbl hx k0 k1'
      generalize hdn : (delL (L.take j) key).length = dn at *
      by_cases hk : x.1 = key
      · have d2 : (x.1 == key) = true := by simpa using hk
        have HK := Lib.hid hk
        clear hk
        go_wp2_with fail
        go_roundw
        case rel => exact ⟨j + 1, by go_num, hlt2, by rw [HT.out, if_pos HK.out, hdn]; exact OW.out, BL.out⟩
        case measure => simp [intOf]; omega
      · have d2 : (x.1 == key) = false := by simpa using hk
        have HK := Lib.hid hk
        clear hk
        go_wp2_with (
          (at_builtin
           refine wpList_append_src _ rfl (.tmp 21) (.tmp 26) 52 rfl w.heap.size 91 i0 _ 2 24 Tryz.underlying52 hi0 hz0 hz1 hz2 rfl (by omega) _ dn _ rfl (by exact OW.out.alloc _) (some ⟨wo.heap.size, 0, none⟩) 1 1 [encStr x.1, .int .i64 x.2] rfl rfl (fun e => by cases e) (by exact src_new _ _ _ _) (by intro u hu; simp only [List.mem_cons, List.not_mem_nil, or_false] at hu; rcases hu with rfl | rfl <;> rfl) (by simp only [maxLen]; omega) (by omega) (by simp; omega) ?_
           intro v' w1 hown1 hgr1 hat1
           have OW1 := Lib.hid hown1
           have HB1 := Lib.hid (((BL.out.alloc hz _).grown hgr1 (by simp; omega) (fun q hq => (OW.out.lt q hq).1)))
           clear hown1 hgr1 hat1))
        go_roundw
        case rel => exact ⟨j + 1, by go_num, hlt2, by rw [HT.out, if_neg HK.out, List.length_append, hdn, markVals_app]; exact OW1.out, HB1.out⟩
        case measure => simp [intOf]; omega
    · have d1 : decide (j < n) = false := by simpa using hlt2
      obtain rfl : j = n := by omega
      have ho := OW.out
      rw [List.take_of_length_le (by rw [HL.out]; exact Nat.le_refl _)] at ho
      clear hown hbl
      have OF := Lib.hid ho
      rw [List.take_of_length_le (by rw [HL.out]; exact Nat.le_refl _)]
      clear ho
      go_wp2_with fail
      go_ret
      exact ⟨_, rfl, OF.out, BL.out⟩
end
end Go.Proofs.YtmkccblcmiflfaaGreat

namespace Go.Proofs.YtmkccblcmiflfaaGreat
open Go.RowKit Go.Maps Go.WideMaps

theorem OwnRow.past {F : Nat → Prop} {w w1 : World} {t : TypeId} {size n p : Nat} {v : Value} {xs : List Value} {cs : Array Value} (h : OwnRow F w t size v n xs) (hp : Blk w p 55 cs) (ht : t ≠ 55) (hb : Below w.heap.size w w1) (i : Nat) (u : Value) :
    OwnRow (Wide F w) (w1.setCell ⟨p, i, none⟩ u) t size v n xs :=
  ⟨own_of_eq h.1 (fun g hg => by
    obtain ⟨cs', hc⟩ := own_blk h.1 hg
    exact (Below.heap_setCell _ _ _ _ (blk_ne hc hp ht)).trans (hb.block g (h.1.lt g hg).2)), fun g hg => .inl (h.2 g hg)⟩
theorem OwnRow.late {F : Nat → Prop} {w w1 : World} {t : TypeId} {size n p : Nat} {v : Value} {xs : List Value} (h : w1.ownsRow w.heap.size t size v n xs) (hp : p < w.heap.size) (i : Nat) (u : Value) : OwnRow (Wide F w) (w1.setCell ⟨p, i, none⟩ u) t size v n xs :=
  ⟨own_of_eq (own_le h (Nat.zero_le _)) (fun g hg => Below.heap_setCell _ _ _ _ (by have := (h.lt g hg).1; show g ≠ p; omega)), fun g hg => .inr (h.lt g hg).1⟩
/-- What a call leaves of the document's catalog. -/
def RefPost (F : Nat → Prop) (p N : Nat) (R : CV) (w w' : World) : Prop := ∃ F', RefAt F' w' p N R ∧ Took F F' w w'
theorem RefAt.up {F : Nat → Prop} {w : World} {p N M : Nat} {R : CV} (h : RefAt F w p N R) (hM : N ≤ M) : RefAt F w p M R := by
  obtain ⟨sw, sh, sb, st, sr, ER, h⟩ := h
  exact ⟨sw, sh, sb, st, sr, ER, { h with lens := by have := h.lens; omega }⟩
theorem RefPost.same {F : Nat → Prop} {p N M : Nat} {R : CV} {w w' : World} (h : RefAt F w p N R) (hM : N ≤ M) (hb : Below w.heap.size w w') : RefPost F p M R w w' :=
  Took.same (RefAt.owning p M R) (h.up hM) hb
section
variable {F : Nat → Prop} {w w1 : World} {p N M : Nat} {R : CV} {sw sh sb st sr v : Value} {ER : List EntR}
theorem RefR.chg (h : RefR F w p N R sw sh sb st sr ER) (hb : Below w.heap.size w w1) (i : Nat) (u : Value) : Chg F w (w1.setCell ⟨p, i, none⟩ u) := (Chg.of_below F hb).store (p := ⟨p, i, none⟩) (.inl h.fp) u
theorem RefR.setWait (h : RefR F w p N R sw sh sb st sr ER) (hb : Below w.heap.size w w1) {L : List (Str × Str)} (ho : w1.ownsRow w.heap.size 88 2 v L.length (waitVals L)) (hL : L.length ≤ M) (hM : N ≤ M) :
    RefPost F p M { R with staged := L } w (w1.setCell ⟨p, 0, none⟩ v) :=
  Took.of (RefAt.owning p M _) ⟨v, sh, sb, st, sr, ER, ⟨(h.blk.below hb h.blk.size).store 0 v, .inl h.fp, OwnRow.late ho h.blk.size 0 v, h.here.past h.blk (by decide) hb 0 v, h.ents, fun r hr => (h.pls r hr).past h.blk (by decide) hb 0 v, h.beg.past h.blk (by decide) hb 0 v, h.tmb.past h.blk (by decide) hb 0 v, h.ret.past h.blk (by decide) hb 0 v, by have := h.lens; exact ⟨hL, by show R.entries.length ≤ M; omega, by show R.begun.length ≤ M; omega, by show R.tombs.length ≤ M; omega, by show R.retired.length ≤ M; omega⟩⟩⟩ (h.chg hb 0 v)
theorem RefR.setHere (h : RefR F w p N R sw sh sb st sr ER) (hb : Below w.heap.size w w1) {E : List (Str × EntV)} {ER' : List EntR} (ho : w1.ownsRow w.heap.size 43 5 v E.length (ent5 ER')) (hE : ER'.map (fun r => (r.key, r.e)) = E) (hp : ∀ r ∈ ER', r ∈ ER ∨ w1.ownsRow w.heap.size 95 2 (.slice r.A r.n r.c) r.n (placeVals r.e.places)) (hL : E.length ≤ M) (hM : N ≤ M) :
    RefPost F p M { R with entries := E } w (w1.setCell ⟨p, 1, none⟩ v) :=
  Took.of (RefAt.owning p M _) ⟨sw, v, sb, st, sr, ER', ⟨(h.blk.below hb h.blk.size).store 1 v, .inl h.fp, h.wait.past h.blk (by decide) hb 1 v, OwnRow.late ho h.blk.size 1 v, hE, fun r hr => (hp r hr).elim (fun hr => (h.pls r hr).past h.blk (by decide) hb 1 v) (fun hr => OwnRow.late hr h.blk.size 1 v), h.beg.past h.blk (by decide) hb 1 v, h.tmb.past h.blk (by decide) hb 1 v, h.ret.past h.blk (by decide) hb 1 v, by have := h.lens; exact ⟨by show R.staged.length ≤ M; omega, hL, by show R.begun.length ≤ M; omega, by show R.tombs.length ≤ M; omega, by show R.retired.length ≤ M; omega⟩⟩⟩ (h.chg hb 1 v)
theorem RefR.setBegun (h : RefR F w p N R sw sh sb st sr ER) (hb : Below w.heap.size w w1) {L : List (Str × Int)} (ho : w1.ownsRow w.heap.size 91 2 v L.length (markVals L)) (hL : L.length ≤ M) (hM : N ≤ M) :
    RefPost F p M { R with begun := L } w (w1.setCell ⟨p, 2, none⟩ v) :=
  Took.of (RefAt.owning p M _) ⟨sw, sh, v, st, sr, ER, ⟨(h.blk.below hb h.blk.size).store 2 v, .inl h.fp, h.wait.past h.blk (by decide) hb 2 v, h.here.past h.blk (by decide) hb 2 v, h.ents, fun r hr => (h.pls r hr).past h.blk (by decide) hb 2 v, OwnRow.late ho h.blk.size 2 v, h.tmb.past h.blk (by decide) hb 2 v, h.ret.past h.blk (by decide) hb 2 v, by have := h.lens; exact ⟨by show R.staged.length ≤ M; omega, by show R.entries.length ≤ M; omega, hL, by show R.tombs.length ≤ M; omega, by show R.retired.length ≤ M; omega⟩⟩⟩ (h.chg hb 2 v)
theorem RefR.setTombs (h : RefR F w p N R sw sh sb st sr ER) (hb : Below w.heap.size w w1) {L : List (Str × Int)} (ho : w1.ownsRow w.heap.size 91 2 v L.length (markVals L)) (hL : L.length ≤ M) (hM : N ≤ M) :
    RefPost F p M { R with tombs := L } w (w1.setCell ⟨p, 3, none⟩ v) :=
  Took.of (RefAt.owning p M _) ⟨sw, sh, sb, v, sr, ER, ⟨(h.blk.below hb h.blk.size).store 3 v, .inl h.fp, h.wait.past h.blk (by decide) hb 3 v, h.here.past h.blk (by decide) hb 3 v, h.ents, fun r hr => (h.pls r hr).past h.blk (by decide) hb 3 v, h.beg.past h.blk (by decide) hb 3 v, OwnRow.late ho h.blk.size 3 v, h.ret.past h.blk (by decide) hb 3 v, by have := h.lens; exact ⟨by show R.staged.length ≤ M; omega, by show R.entries.length ≤ M; omega, by show R.begun.length ≤ M; omega, hL, by show R.retired.length ≤ M; omega⟩⟩⟩ (h.chg hb 3 v)
theorem RefR.setRet (h : RefR F w p N R sw sh sb st sr ER) (hb : Below w.heap.size w w1) {L : List Int} (ho : w1.ownsRow w.heap.size 3 1 v L.length (intVals L)) (hL : L.length ≤ M) (hM : N ≤ M) :
    RefPost F p M { R with retired := L } w (w1.setCell ⟨p, 4, none⟩ v) :=
  Took.of (RefAt.owning p M _) ⟨sw, sh, sb, st, v, ER, ⟨(h.blk.below hb h.blk.size).store 4 v, .inl h.fp, h.wait.past h.blk (by decide) hb 4 v, h.here.past h.blk (by decide) hb 4 v, h.ents, fun r hr => (h.pls r hr).past h.blk (by decide) hb 4 v, h.beg.past h.blk (by decide) hb 4 v, h.tmb.past h.blk (by decide) hb 4 v, OwnRow.late ho h.blk.size 4 v, by have := h.lens; exact ⟨by show R.staged.length ≤ M; omega, by show R.entries.length ≤ M; omega, by show R.begun.length ≤ M; omega, by show R.tombs.length ≤ M; omega, hL⟩⟩⟩ (h.chg hb 4 v)
theorem RefR.setGen (h : RefR F w p N R sw sh sb st sr ER) (hb : Below w.heap.size w w1) (g : Int) (hM : N ≤ M) :
    RefPost F p M { R with gen := g } w (w1.setCell ⟨p, 5, none⟩ (.int .i64 g)) :=
  Took.of (RefAt.owning p M _) ⟨sw, sh, sb, st, sr, ER, ⟨(h.blk.below hb h.blk.size).store 5 _, .inl h.fp, h.wait.past h.blk (by decide) hb 5 _, h.here.past h.blk (by decide) hb 5 _, h.ents, fun r hr => (h.pls r hr).past h.blk (by decide) hb 5 _, h.beg.past h.blk (by decide) hb 5 _, h.tmb.past h.blk (by decide) hb 5 _, h.ret.past h.blk (by decide) hb 5 _, by have := h.lens; exact ⟨by show R.staged.length ≤ M; omega, by show R.entries.length ≤ M; omega, by show R.begun.length ≤ M; omega, by show R.tombs.length ≤ M; omega, by show R.retired.length ≤ M; omega⟩⟩⟩ (h.chg hb 5 _)
end
/-- One that is left out, by its index. -/
def remL {α : Type} (L : List α) (k : Nat) : List α := L.take k ++ L.drop (k + 1)
theorem remL_len {α : Type} (L : List α) (k : Nat) : (remL L k).length ≤ L.length := by
  unfold remL
  rw [List.length_append, List.length_take, List.length_drop]
  omega
theorem remL_del {β : Type} {L : List (Str × β)} {key : Str} {k : Nat} (h : idxP (isKey key) L = k) (hn : (L.map Prod.fst).Nodup) : remL L k = delL L key := by
  induction L generalizing k with
  | nil => simp [idxP] at h
  | cons x L ih =>
    rw [List.map_cons, List.nodup_cons] at hn
    by_cases hx : isKey key x = true
    · have h0 : k = 0 := by
        simp only [idxP, hx, if_true] at h
        omega
      subst h0
      have hk : x.1 = key := by simpa [isKey] using hx
      have h1 : delL (x :: L) key = delL L key := by simp [delL, hk]
      have h2 : hasL L key = false := by
        cases hh : hasL L key with
        | false => rfl
        | true => exact absurd (hk ▸ hasL_mem.1 hh) hn.1
      rw [h1, delL_same h2]
      rfl
    · have hx' : isKey key x = false := by simpa using hx
      have hk : x.1 ≠ key := by simpa [isKey] using hx'
      simp only [idxP, hx', Bool.false_eq_true, if_false] at h
      obtain ⟨k', rfl⟩ : ∃ k', k = k' + 1 := by
        split at h
        · omega
        · exact ⟨k - 1, by omega⟩
      have h1 : delL (x :: L) key = x :: delL L key := by simp [delL, hk]
      have h2 : idxP (isKey key) L = (k' : Int) := by
        split at h
        · omega
        · omega
      rw [h1, ← ih h2 hn.2]
      rfl
end Go.Proofs.YtmkccblcmiflfaaGreat

namespace Go.Proofs.YtmkccblcmiflfaaGreat
open Go.RowKit Go.Maps Go.WideMaps Go.Sort

theorem idxP_snoc {α : Type} (p : α → Bool) (l : List α) (x : α) : idxP p (l ++ [x]) = if idxP p l < 0 then (if p x then (l.length : Int) else -1) else idxP p l := by
  induction l with
  | nil =>
    simp only [List.nil_append, idxP, List.length_nil]
    by_cases h : p x = true <;> simp [h]
  | cons y l ih =>
    have hg := idxP_ge p l
    simp only [List.cons_append, idxP, ih, List.length_cons]
    by_cases hy : p y = true
    · simp [hy]
    · simp only [hy, if_false, Bool.false_eq_true]
      by_cases hn : idxP p l < 0
      · by_cases hx : p x = true <;> simp [hn, hx] <;> omega
      · rw [if_neg hn, if_neg hn, if_neg (by omega)]
theorem tomb_first {L : List (Str × Int)} {j : Nat} {x : Str × Int} {k : Str} {g : Int} (hn : L.Nodup) (hx : L[j]? = some x) (hp : isTomb k g x = true) : idxP (isTomb k g) (L.take j) < 0 := by
  refine idxP_neg.2 ?_
  rw [List.any_eq_false]
  intro y hy hpy
  obtain ⟨i, hi, rfl⟩ := List.mem_iff_getElem.1 hy
  have hij : i < j := by rw [List.length_take] at hi; omega
  have e1 : (L.take j)[i] = L[i]'(by rw [List.length_take] at hi; omega) := List.getElem_take
  have hxl := (List.getElem?_eq_some_iff.1 hx).1
  have e2 : L[j] = x := (List.getElem?_eq_some_iff.1 hx).2
  have h1 : (L.take j)[i] = x := by
    unfold isTomb at hp hpy
    simp only [Bool.and_eq_true, decide_eq_true_eq] at hp hpy
    exact Prod.ext (hpy.1.trans hp.1.symm) (hpy.2.trans hp.2.symm)
  rw [e1, ← e2] at h1
  have hp2 := List.pairwise_iff_getElem.1 hn i j (by omega) hxl hij
  exact hp2 h1
theorem tomb_step {L : List (Str × Int)} {j : Nat} {x : Str × Int} {k : Str} {g : Int} (hn : L.Nodup) (hx : L[j]? = some x) : idxP (isTomb k g) (L.take (j + 1)) = if isTomb k g x = true then (j : Int) else idxP (isTomb k g) (L.take j) := by
  have hj := (List.getElem?_eq_some_iff.1 hx).1
  rw [List.take_add_one, hx, Option.toList_some, idxP_snoc]
  by_cases hp : isTomb k g x = true
  · rw [if_pos (tomb_first hn hx hp), if_pos hp, if_pos hp, List.length_take, Nat.min_eq_left (by omega)]
  · rw [if_neg hp, if_neg hp]
    split
    · rename_i h
      have := (idxP_ge (isTomb k g) (L.take j)).1
      omega
    · rfl
theorem remL_erase {α : Type} (L : List α) (k : Nat) : remL L k = L.eraseIdx k := by
  unfold remL
  rw [List.eraseIdx_eq_take_drop_succ]
/-- Put in where it belongs, among texts. -/
def insS (L : List Str) (q : Str) : List Str := L.takeWhile (fun x => decide (x < q)) ++ q :: L.dropWhile (fun x => decide (x < q))
def rkeysC (R : CV) : List Str := R.staged.foldl (fun l q => insS l q.1) (R.entries.map Prod.fst)
theorem insS_perm (L : List Str) (q : Str) : List.Perm (insS L q) (q :: L) := by
  unfold insS
  refine List.perm_middle.trans ?_
  rw [List.takeWhile_append_dropWhile]
theorem insS_sorted {L : List Str} {q : Str} (h : L.Pairwise fun a b => a ≤ b) : (insS L q).Pairwise fun a b => a ≤ b := by
  induction L with
  | nil => simp [insS]
  | cons y L ih =>
    obtain ⟨h1, h2⟩ := List.pairwise_cons.1 h
    by_cases hy : y < q
    · have e : insS (y :: L) q = y :: insS L q := by simp [insS, hy]
      rw [e]
      refine List.pairwise_cons.2 ⟨fun x hx => ?_, ih h2⟩
      rcases List.mem_cons.1 ((insS_perm L q).mem_iff.1 hx) with hx | hx
      · rw [hx]; exact List.le_of_lt hy
      · exact h1 x hx
    · have e : insS (y :: L) q = q :: y :: L := by simp [insS, hy]
      have hqy : q ≤ y := List.not_lt.1 hy
      rw [e]
      refine List.pairwise_cons.2 ⟨fun x hx => ?_, h⟩
      rcases List.mem_cons.1 hx with hx | hx
      · rw [hx]
        exact hqy
      · exact List.le_trans hqy (h1 x hx)
theorem foldS_perm (S : List (Str × Str)) : ∀ L : List Str, List.Perm (S.foldl (fun l q => insS l q.1) L) (S.map Prod.fst ++ L) := by
  induction S with
  | nil => intro L; exact List.Perm.refl _
  | cons x S ih =>
    intro L
    rw [List.foldl_cons, List.map_cons, List.cons_append]
    refine (ih _).trans ?_
    refine ((insS_perm L x.1).append_left _).trans ?_
    exact List.perm_middle
theorem foldS_sorted (S : List (Str × Str)) : ∀ L : List Str, (L.Pairwise fun a b => a ≤ b) → (S.foldl (fun l q => insS l q.1) L).Pairwise fun a b => a ≤ b := by
  induction S with
  | nil => intro L h; exact h
  | cons x S ih =>
    intro L h
    rw [List.foldl_cons]
    exact ih _ (insS_sorted h)
theorem rkeysC_eq {R : CV} (hs : SortedE R.entries) : rkeysC R = keysC R := by
  have h1 : (R.entries.map Prod.fst).Pairwise fun a b => a ≤ b := by
    rw [List.pairwise_map]
    exact hs.imp fun h => List.le_of_lt h
  have h2 : (keysC R).Pairwise fun a b => a ≤ b := by
    unfold keysC sortS
    refine (List.pairwise_mergeSort (le := leB) (fun a b c h1 h2 => by simp only [leB, decide_eq_true_eq] at *; exact List.le_trans h1 h2) (fun a b => by simp only [leB, Bool.or_eq_true, decide_eq_true_eq]; exact List.le_total a b) _).imp fun {a b} h => ?_
    simpa [leB] using h
  refine List.Perm.eq_of_pairwise (le := fun a b : Str => a ≤ b) (fun _ _ _ _ h1 h2 => List.le_antisymm h1 h2) (foldS_sorted _ _ h1) h2 ?_
  refine (foldS_perm _ _).trans ?_
  unfold keysC sortS
  exact ((List.mergeSort_perm _ _).trans (by first | exact List.perm_append_comm | exact List.Perm.refl _)).symm
theorem tw_at {α : Type} {p : α → Bool} : ∀ {l : List α} {i : Nat}, (∀ j y, j < i → l[j]? = some y → p y = true) → i ≤ l.length → (∀ y, l[i]? = some y → p y = false) → l.takeWhile p = l.take i ∧ l.dropWhile p = l.drop i
  | [], i, _, hi, _ => by
    simp
  | x :: l, 0, _, _, h0 => by
    have h := h0 x rfl
    simp [h]
  | x :: l, i + 1, h1, hi, h0 => by
    have h := h1 0 x (by omega) rfl
    obtain ⟨e1, e2⟩ := tw_at (l := l) (i := i) (fun j y hj hy => h1 (j + 1) y (by omega) (by simpa using hy)) (by simpa using hi) (fun y hy => h0 y (by simpa using hy))
    simp [h, e1, e2]
end Go.Proofs.YtmkccblcmiflfaaGreat
