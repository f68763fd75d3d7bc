/- Package word's Reader: Get, Text and End on any bytes. No condition beyond those that each theorem states. -/
import Derived.Test.YtgkgieemdjbhpaaMT1
import Derived.Test.YtgkgieemdjbhpaaMA6
namespace Go.Proofs.Ytgkgieemdjbhpaa
open Go.RowKit

def getR (most : Nat) (l : List UInt8) (bad : Bool) : Nat × List UInt8 × Bool :=
  if bad then (0, l, true) else match nextR l with
  | none => (0, l, true)
  | some (N, ok, r) => if ok = true ∧ N ≤ most then (N, r, false) else (0, r, true)
def textR (most : Nat) (l : List UInt8) (bad : Bool) : List UInt8 × List UInt8 × Bool :=
  if (getR most l bad).2.2 then ([], (getR most l bad).2.1, true)
  else if (getR most l bad).2.1.length < (getR most l bad).1 then ([], (getR most l bad).2.1, true)
  else ((getR most l bad).2.1.take (getR most l bad).1, (getR most l bad).2.1.drop (getR most l bad).1, false)
theorem BytesIn.front {w : World} {A : Option Addr} {m : Nat} {pre rest : List UInt8} (h : BytesIn w A m (pre ++ rest)) : BytesIn w A pre.length pre := by
  refine ⟨rfl, ?_⟩
  have hl := h.1
  rw [List.length_append] at hl
  rcases h.2 with h0 | ⟨b, off, e, hz, hc⟩
  · left; omega
  · exact .inr ⟨b, off, e, hz, fun i u hu => hc i u (by rw [List.getElem?_append_left (List.getElem?_eq_some_iff.1 hu).1]; exact hu)⟩
theorem RdAt.spoil {w : World} {q : Nat} {l : List UInt8} {bad : Bool} (h : RdAt w q l bad) : RdAt (w.setCell ⟨q, 1, none⟩ (.bool true)) q l true ∧ Chg (fun i => i = q) w (w.setCell ⟨q, 1, none⟩ (.bool true)) := by
  obtain ⟨A, m, d, hq, hf, hA, hb⟩ := h.ex
  refine ⟨⟨A, m, d, hq.store 1 _, hf, ?_, hb.keep (by simp [World.setCell]) fun b off e _ => ?_⟩, (Chg.refl (fun i => i = q) w).store (p := ⟨q, 1, none⟩) (.inl rfl) _⟩
  · rcases hA with h | ⟨b, off, cs, rfl, hbb⟩
    · exact .inl h
    · exact .inr ⟨b, off, cs, rfl, hbb.apart (blk_ne hbb hq (by decide)) _⟩
  · rcases hA with h | ⟨b', off', cs, rfl, hbb⟩
    · rw [h] at e; cases e
    · cases e
      exact Below.heap_setCell w _ _ b (blk_ne hbb hq (by decide))
theorem RdAt.cells {w : World} {q : Nat} {l : List UInt8} {bad : Bool} (h : RdAt w q l bad) : w.cell? ⟨q, 1, none⟩ = some (.bool bad) ∧ w.frozen? ⟨q, 1, none⟩ = false := by
  obtain ⟨A, m, d, hq, _⟩ := h.ex
  exact ⟨hq.cell 1, hq.free 1⟩
section
set_option maxHeartbeats 2000000
set_option maxRecDepth 4000
theorem rNext (q : Nat) (l : List UInt8) (w : World) (h : RdAt w q l false) :
    Calls Try.prog 40 #[.pointer (some ⟨q, 0, none⟩)] w (NextPost q l w) := by
  obtain ⟨A, m, d, hq, hf, hA, hb⟩ := h.ex
  by_cases hm0 : 0 < m
  · rcases hA with rfl | ⟨b, off, cs, rfl, hbb⟩
    · have := (hf.2.2 rfl).1; omega
    · exact rnext_some q b off m d cs l w hq hbb hf.1 hf.2.1 hb hm0
  · obtain rfl : m = 0 := by omega
    have hl : l = [] := List.eq_nil_of_length_eq_zero hb.1
    have k0 : w.cell? ⟨q, 0, none⟩ = some (.slice A 0 d) := hq.cell 0
    have HL := Lib.hid hl
    clear hl hb hA hf hq h
    go_enter Try.func40, Try.ntmps40
    go_wp2_with fail
    go_loopw [4, 12] (fun u i wx => i = .int .i64 0 ∧ wx = w) (fun _ i _ => 0)
    case atStart => exact ⟨rfl, rfl⟩
    case round =>
      obtain ⟨rfl, rfl⟩ := hrel
      go_wp2_with fail
      go_ret2
      exact .inl ⟨by rw [HL.out]; rfl, rfl, rfl⟩
theorem NextPost.none {q : Nat} {l : List UInt8} {w w' : World} {e : Ending} (h : NextPost q l w e w') (hn : nextR l = Option.none) : e = .returned (.tuple #[.int .u64 0, .bool false]) ∧ w = w' := by
  rcases h with ⟨_, h1, h2⟩ | ⟨N, ok, r, h1, _⟩
  · exact ⟨h1, h2⟩
  · rw [hn] at h1; cases h1
theorem NextPost.some {q : Nat} {l r : List UInt8} {w w' : World} {e : Ending} {N : Nat} {ok : Bool} (h : NextPost q l w e w') (hn : nextR l = Option.some (N, ok, r)) : e = .returned (.tuple #[.int .u64 N, .bool ok]) ∧ RdAt w' q r false ∧ Chg (fun i => i = q) w w' := by
  rcases h with ⟨h1, _⟩ | ⟨N', ok', r', h1, h2, h3, h4⟩
  · rw [hn] at h1; cases h1
  · rw [hn] at h1; cases h1; exact ⟨h2, h3, h4⟩
def GetPost (q most : Nat) (l : List UInt8) (bad : Bool) (w : World) (e : Ending) (w' : World) : Prop :=
  e = .returned (.int .i64 ((getR most l bad).1 : Nat)) ∧ RdAt w' q (getR most l bad).2.1 (getR most l bad).2.2 ∧ Chg (fun i => i = q) w w'
theorem getR_none {most : Nat} {l : List UInt8} (h : nextR l = none) : getR most l false = (0, l, true) := by simp [getR, h]
theorem getR_ok {most N : Nat} {l r : List UInt8} (h : nextR l = some (N, true, r)) (hle : N ≤ most) : getR most l false = (N, r, false) := by simp [getR, h, hle]
theorem getR_no {most N : Nat} {l r : List UInt8} {ok : Bool} (h : nextR l = some (N, ok, r)) (hle : ¬ (ok = true ∧ N ≤ most)) : getR most l false = (0, r, true) := by simp only [getR, h, if_neg hle]; rfl
theorem GetPost.of {q most N : Nat} {l l' : List UInt8} {bad bad' : Bool} {w w' : World} {e : Ending} (hg : getR most l bad = (N, l', bad')) (he : e = .returned (.int .i64 (N : Nat))) (hr : RdAt w' q l' bad') (hc : Chg (fun i => i = q) w w') : GetPost q most l bad w e w' := by
  unfold GetPost; rw [hg]; exact ⟨he, hr, hc⟩
theorem rGet (q most : Nat) (l : List UInt8) (bad : Bool) (w : World) (h : RdAt w q l bad) (hmost : most ≤ 9223372036854775807) :
    Calls Try.prog 34 #[.pointer (some ⟨q, 0, none⟩), .int .i64 (most : Int)] w (GetPost q most l bad w) := by
  have H := Lib.hid h
  cases bad with
  | true =>
    have k1 := h.cells.1
    clear h
    go_enter Try.func34, Try.ntmps34
    go_wp2_with fail
    go_ret
    exact GetPost.of rfl rfl H.out (Chg.refl _ _)
  | false =>
    have k1 := h.cells.1
    have hm0 : decide ((most : Int) < 0) = false := by simp
    cases hn : nextR l with
    | none =>
      have k2 := h.cells.2
      have HN := Lib.hid hn
      clear hn h
      go_enter Try.func34, Try.ntmps34
      go_wp2_with (go_at_call 40; refine (rNext q l _ H.out).mono ?_; rintro e w' hp; obtain ⟨rfl, rfl⟩ := hp.none HN.out)
      go_ret
      exact GetPost.of (getR_none HN.out) rfl H.out.spoil.1 H.out.spoil.2
    | some t =>
      obtain ⟨N, ok, r⟩ := t
      have hN := (goR_lt l 0 0 N ok r (by omega) (by simp) hn).1
      have hN2 : N ≤ 9223372036854775807 := by omega
      have HN := Lib.hid hn
      clear hn h hN
      cases ok with
      | false =>
        go_enter Try.func34, Try.ntmps34
        go_wp2_with (go_at_call 40; refine (rNext q l _ H.out).mono ?_; rintro e w1 hp; obtain ⟨rfl, hr, hc⟩ := hp.some HN.out; have k2 := hr.cells.2; have k3 := hr.cells.1; have HR := Lib.hid hr; have HC := Lib.hid hc; clear hr hc)
        go_ret
        exact GetPost.of (getR_no HN.out (fun h => by cases h.1)) rfl HR.out.spoil.1 (HC.out.trans HR.out.spoil.2)
      | true =>
        by_cases hle : N ≤ most
        · have d1 : decide (most < N) = false := by simp; omega
          go_enter Try.func34, Try.ntmps34
          go_wp2_with (go_at_call 40; refine (rNext q l _ H.out).mono ?_; rintro e w1 hp; obtain ⟨rfl, hr, hc⟩ := hp.some HN.out; have HR := Lib.hid hr; have HC := Lib.hid hc; clear hr hc)
          go_ret
          exact GetPost.of (getR_ok HN.out hle) rfl HR.out HC.out
        · have d1 : decide (most < N) = true := by simp; omega
          go_enter Try.func34, Try.ntmps34
          go_wp2_with (go_at_call 40; refine (rNext q l _ H.out).mono ?_; rintro e w1 hp; obtain ⟨rfl, hr, hc⟩ := hp.some HN.out; have k2 := hr.cells.2; have k3 := hr.cells.1; have HR := Lib.hid hr; have HC := Lib.hid hc; clear hr hc)
          go_ret
          exact GetPost.of (getR_no HN.out (fun h => hle h.2)) rfl HR.out.spoil.1 (HC.out.trans HR.out.spoil.2)
def TextPost (q most : Nat) (l : List UInt8) (bad : Bool) (w : World) (e : Ending) (w' : World) : Prop :=
  e = .returned (encStr (textR most l bad).1) ∧ RdAt w' q (textR most l bad).2.1 (textR most l bad).2.2 ∧ Chg (fun i => i = q) w w'
theorem TextPost.of {q most : Nat} {s l l' : List UInt8} {bad bad' : Bool} {w w' : World} {e : Ending} (hg : textR most l bad = (s, l', bad')) (he : e = .returned (encStr s)) (hr : RdAt w' q l' bad') (hc : Chg (fun i => i = q) w w') : TextPost q most l bad w e w' := by
  unfold TextPost; rw [hg]; exact ⟨he, hr, hc⟩
theorem textR_bad {most N : Nat} {l r : List UInt8} {bad : Bool} (h : getR most l bad = (N, r, true)) : textR most l bad = ([], r, true) := by simp [textR, h]
theorem textR_long {most N : Nat} {l r : List UInt8} {bad : Bool} (h : getR most l bad = (N, r, false)) (hl : r.length < N) : textR most l bad = ([], r, true) := by simp [textR, h, hl]
theorem textR_ok {most N : Nat} {l r : List UInt8} {bad : Bool} (h : getR most l bad = (N, r, false)) (hl : ¬ r.length < N) : textR most l bad = (r.take N, r.drop N, false) := by simp [textR, h, hl]
theorem rText (q most : Nat) (l : List UInt8) (bad : Bool) (w : World) (h : RdAt w q l bad) (hmost : most ≤ 9223372036854775807) :
    Calls Try.prog 23 #[.pointer (some ⟨q, 0, none⟩), .int .i64 (most : Int)] w (TextPost q most l bad w) := by
  have H := Lib.hid h
  rcases hg : getR most l bad with ⟨N, r, b⟩
  have HG := Lib.hid hg
  cases b with
  | true =>
    clear h hg
    go_enter Try.func23, Try.ntmps23
    go_wp2_with (go_at_call 34; refine (rGet q most l bad _ H.out hmost).mono ?_; rintro e w1 hp; unfold GetPost at hp; rw [HG.out] at hp; obtain ⟨rfl, hr, hc⟩ := hp; have k1 := hr.cells.1; have HR := Lib.hid hr; have HC := Lib.hid hc; clear hr hc)
    go_ret
    exact TextPost.of (textR_bad HG.out) rfl HR.out HC.out
  | false =>
    clear h hg
    by_cases hl : r.length < N
    · have TL := Lib.hid (textR_long HG.out hl)
      go_enter Try.func23, Try.ntmps23
      go_wp2_with fail
      refine (rGet q most l bad _ H.out hmost).mono ?_
      rintro e w1 hp
      unfold GetPost at hp
      rw [HG.out] at hp
      obtain ⟨rfl, hr, hc⟩ := hp
      have k1 := hr.cells.1
      have k2 := hr.cells.2
      obtain ⟨A, m, d, hq, hf, hA, hb⟩ := hr.ex
      have k0 : w1.cell? ⟨q, 0, none⟩ = some (.slice A m d) := hq.cell 0
      have hlm : r.length = m := hb.1
      have d1 : decide (m < N) = true := by simp; omega
      have HR := Lib.hid hr
      have HC := Lib.hid hc
      clear hr hc hq hf hA hb hlm hl
      go_wp2_with fail
      go_ret
      exact TextPost.of TL.out rfl HR.out.spoil.1 (HC.out.trans HR.out.spoil.2)
    · have TO := Lib.hid (textR_ok HG.out hl)
      go_enter Try.func23, Try.ntmps23
      go_wp2_with fail
      refine (rGet q most l bad _ H.out hmost).mono ?_
      rintro e w1 hp
      unfold GetPost at hp
      rw [HG.out] at hp
      obtain ⟨rfl, hr, hc⟩ := hp
      have k1 := hr.cells.1
      have k2 : w1.frozen? ⟨q, 0, none⟩ = false := by obtain ⟨A, m, d, hq, _⟩ := hr.ex; exact hq.free 0
      have HC := Lib.hid hc
      obtain ⟨A, m, d, hq, hf, hA, hb⟩ := hr.ex
      have k0 : w1.cell? ⟨q, 0, none⟩ = some (.slice A m d) := hq.cell 0
      have hlm : r.length = m := hb.1
      have d1 : decide (m < N) = false := by simp; omega
      have HSP := Lib.hid (show BytesIn w1 A m (r.take N ++ r.drop N) by rw [List.take_append_drop]; exact hb)
      have HTL := Lib.hid (show (r.take N).length = N by rw [List.length_take]; omega)
      have HDL := Lib.hid (show (r.drop N).length = m - N by rw [List.length_drop]; omega)
      have HQ := Lib.hid hq
      have HF := Lib.hid hf
      have hnm : N ≤ m := by omega
      have hmd := hf.1
      have hdm : d ≤ 9223372036854775807 := by have := hf.2.1; simp only [maxLen] at this; omega
      rcases hA with rfl | ⟨b, off, cs, rfl, hbb⟩
      · obtain ⟨rfl, rfl⟩ := hf.2.2 rfl
        obtain rfl : N = 0 := by omega
        have hr0 : r = [] := List.eq_nil_of_length_eq_zero hlm
        subst hr0
        have hcv := bytes_string (w := w1) (c := 0) (BytesIn.empty w1 none) (.inl rfl)
        clear hr hc hlm hf hq hb hl
        go_wp2_with fail
        go_ret
        refine TextPost.of TO.out rfl ⟨none, 0, 0, HQ.out.store 0 _, HF.out, .inl rfl, BytesIn.empty _ _⟩ (HC.out.trans ((Chg.refl (fun i => i = q) w1).store (p := ⟨q, 0, none⟩) (.inl rfl) _))
      · have hcv := bytes_string (w := w1) (c := d) (A := some ⟨b, off, none⟩) (n := N) (l := r.take N) (by have h := HSP.out.front; rwa [HTL.out] at h) (.inr ⟨b, off, rfl⟩)
        have HB := Lib.hid hbb
        clear hr hc hlm hf hq hb hl hbb
        by_cases hdn : d = N
        · subst hdn
          go_wp2_with fail
          go_ret
          have h := rd_cut (o' := off) (m' := 0) (d' := 0) HQ.out HB.out HSP.out (.inr (List.eq_nil_of_length_eq_zero (by rw [HDL.out]; omega))) (by rw [HDL.out]; omega) (by omega) (by simp [maxLen])
          exact TextPost.of TO.out rfl h.1 (HC.out.trans h.2)
        · go_wp2_with fail
          go_ret
          have h := rd_cut (o' := off + N) (m' := m - N) (d' := d - N) HQ.out HB.out HSP.out (.inl (by rw [HTL.out])) HDL.out.symm (by omega) (by have := HF.out.2.1; omega)
          exact TextPost.of TO.out rfl h.1 (HC.out.trans h.2)
theorem rEnd (q : Nat) (l : List UInt8) (bad : Bool) (w : World) (h : RdAt w q l bad) :
    Calls Try.prog 24 #[.pointer (some ⟨q, 0, none⟩)] w fun e w' => e = .returned (.bool (!bad && l.isEmpty)) ∧ w = w' := by
  have k1 := h.cells.1
  obtain ⟨A, m, d, hq, hf, hA, hb⟩ := h.ex
  have k0 : w.cell? ⟨q, 0, none⟩ = some (.slice A m d) := hq.cell 0
  have hm : l.length = m := hb.1
  clear hq hf hA hb h
  cases bad with
  | true =>
    clear hm
    go_enter Try.func24, Try.ntmps24
    go_wp2_with fail
    go_ret
    exact ⟨rfl, rfl⟩
  | false =>
    cases l with
    | nil =>
      obtain rfl : m = 0 := hm.symm
      clear hm
      go_enter Try.func24, Try.ntmps24
      go_wp2_with fail
      go_ret
      exact ⟨rfl, rfl⟩
    | cons c l =>
      have d1 : ((m : Int) == 0) = false := by simp at hm; simp; omega
      clear hm
      go_enter Try.func24, Try.ntmps24
      go_wp2_with fail
      go_ret
      exact ⟨rfl, rfl⟩
end
end Go.Proofs.Ytgkgieemdjbhpaa
