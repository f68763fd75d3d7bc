/- What the methods of a cartridge do, by the blocks that it owns. No condition beyond those that each theorem states. -/
import Derived.Test.YtiiilimmjoadeaaS1
import Derived.Test.YtiiilimmjoadeaaCa8
namespace Go.Proofs.Ytiiilimmjoadeaa
open Go.RowKit

/-- A cartridge whose blocks all lie in F. -/
def COwn (F : Nat → Prop) (w : World) (p : Nat) (M : Recs) (most : Int) (lost : Bool) : Prop :=
  ∃ (lv : Value) (R : List RecV), R.map (fun r => (r.bytes, r.rot)) = M ∧ CartAt w p lv R most lost ∧ F p ∧ (∀ g, lv.ownBlock = some g → F g) ∧ ∀ r ∈ R, F r.g
theorem COwn.owning (p : Nat) (M : Recs) (most : Int) (lost : Bool) : Owning fun F w => COwn F w p M most lost where
  mono := fun _ _ _ ⟨lv, R, h1, h2, h3, h4, h5⟩ hs => ⟨lv, R, h1, h2, hs p h2.blk.size h3, fun g hg => hs g (h2.own_lt hg) (h4 g hg), fun r hr => hs r.g (h2.rec_lt hr) (h5 r hr)⟩
  keep := fun _ _ _ ⟨lv, R, h1, h2, h3, h4, h5⟩ _ hk => ⟨lv, R, h1, h2.keep (hk p h2.blk.size h3) (fun g hg => hk g (h2.own_lt hg) (h4 g hg)) (fun r hr => hk r.g (h2.rec_lt hr) (h5 r hr)), h3, h4, h5⟩
theorem COwn.same {F : Nat → Prop} {w w' : World} {p : Nat} {M : Recs} {most : Int} {lost : Bool} (h : COwn F w p M most lost) (hb : Below w.heap.size w w') : ∃ F', COwn F' w' p M most lost ∧ Took F F' w w' := Took.same (COwn.owning p M most lost) h hb
theorem COwn.chg {F S : Nat → Prop} {w w' : World} {p : Nat} {M : Recs} {most : Int} {lost lost' : Bool} {lv lv' : Value} {R R' : List RecV} (_hc : CartAt w p lv R most lost) (hp : F p) (ho : ∀ g, lv.ownBlock = some g → F g)
    (hS : ∀ k, S k → k = p ∨ lv.ownBlock = some k) (h' : CartAt w' p lv' R' most lost') (ho' : ∀ g, lv'.ownBlock = some g → F g ∨ w.heap.size ≤ g) (hg : Chg S w w') (hM : R'.map (fun r => (r.bytes, r.rot)) = M) (hr : ∀ r ∈ R', F r.g ∨ w.heap.size ≤ r.g) :
    ∃ F', COwn F' w' p M most lost' ∧ Took F F' w w' :=
  Took.of (COwn.owning p M most lost') ⟨lv', R', hM, h', .inl hp, ho', hr⟩ (hg.mono (fun k hk => (hS k hk).elim (fun e => e ▸ hp) (ho k)))
theorem COwn.short {F : Nat → Prop} {w : World} {p : Nat} {M : Recs} {most : Int} {lost : Bool} (h : COwn F w p M most lost) : (∀ r ∈ M, r.1.length ≤ 256) ∧ (M.length : Int) ≤ most ∧ most ≤ 1024 := by
  obtain ⟨lv, R, hM, hc, _⟩ := h
  refine ⟨fun r hr => ?_, by rw [← hM, List.length_map]; exact hc.few, hc.lim.2⟩
  rw [← hM] at hr
  obtain ⟨x, hx, rfl⟩ := List.mem_map.1 hr
  have h1 := (hc.recs x hx).size
  have h2 := (hc.recs x hx).short
  simp only
  omega

theorem cNew (m : Int) (w : World) : Calls Try.prog 13 #[.int .i64 m] w fun e w' => ∃ p, e = .returned (.pointer (some ⟨p, 0, none⟩)) ∧ w.heap.size ≤ p ∧ COwn (fun k => w.heap.size ≤ k) w' p [] (max 0 (min m 1024)) false ∧ Below w.heap.size w w' :=
  (cartNew_any m w).mono fun _ _ ⟨p, he, hp, hc, hb⟩ => ⟨p, he, hp, ⟨_, [], rfl, hc, hp, (fun g hg => by cases hg), (fun r hr => by cases hr)⟩, hb⟩

theorem cAppend (F : Nat → Prop) (p : Nat) (M : Recs) (most : Int) (lost : Bool) (A : Option Addr) (n c : Nat) (l : List UInt8) (w : World) (h : COwn F w p M most lost) (hb : BytesIn w A n l) :
    Calls Try.prog 14 #[.pointer (some ⟨p, 0, none⟩), .slice A n c] w fun e w' => e = .returned (.tuple #[.int .i64 (appendM M most lost l).1, .int .i64 (appendM M most lost l).2.1]) ∧ ∃ F', COwn F' w' p (appendM M most lost l).2.2 most lost ∧ Took F F' w w' := by
  have hln := hb.1
  by_cases hbad : l.length = 0 ∨ 256 < l.length
  · have e1 : appendM M most lost l = (0, 1, M) := by unfold appendM; rw [if_pos hbad]
    rw [e1]
    refine (append_bad _ A n c w (.inr ⟨p, rfl⟩) (.inr (by rw [hln] at hbad; exact hbad))).mono fun e w' ⟨he, hw⟩ => ?_
    subst hw
    exact ⟨he, h.same (Below.refl _ _)⟩
  · have hn1 : 1 ≤ n := by omega
    have hn2 : n ≤ 256 := by omega
    obtain ⟨lv, R, hM, hc, hp, ho, hrg⟩ := h
    have hlen : R.length = M.length := by rw [← hM]; simp
    cases lost with
    | true =>
      have e1 : appendM M most true l = (0, 9, M) := by unfold appendM; rw [if_neg hbad]; rfl
      rw [e1]
      refine (append_lost p lv R most A n c w hc hn1 hn2).mono fun e w' ⟨he, hw⟩ => ?_
      subst hw
      exact ⟨he, COwn.same ⟨lv, R, hM, hc, hp, ho, hrg⟩ (Below.refl _ _)⟩
    | false =>
      by_cases hf : most ≤ M.length
      · have e1 : appendM M most false l = (0, 7, M) := by unfold appendM; rw [if_neg hbad, if_neg (by simp), if_pos hf]
        rw [e1]
        refine (append_full p lv R most A n c w hc hn1 hn2 (by omega)).mono fun e w' ⟨he, hw⟩ => ?_
        exact ⟨he, COwn.same ⟨lv, R, hM, hc, hp, ho, hrg⟩ hw⟩
      · have e1 : appendM M most false l = ((M.length : Int), 0, M ++ [(l, false)]) := by unfold appendM; rw [if_neg hbad, if_neg (by simp), if_neg hf]
        rw [e1]
        obtain ⟨b, off, rfl, _⟩ := hb.2.resolve_left (by omega)
        refine (append_ok p lv R most b off n c l w hc hb hn1 hn2 (by omega)).mono fun e w' ⟨lv', g, cap, he, hg, h', hchg, hat⟩ => ?_
        refine ⟨by rw [he, hlen], ?_⟩
        refine COwn.chg hc hp ho (fun k hk => hk) h' (fun q hq => ?_) hchg (by simp [hM]) (fun r hr => by
          rcases List.mem_append.1 hr with hr | hr
          · exact .inl (hrg r hr)
          · have hr : r = ⟨g, n, cap, l, false⟩ := by simpa using hr
            subst hr
            exact .inr hg)
        rcases hat with h1 | ⟨g', h1, h2⟩
        · exact .inl (ho q (h1 ▸ hq))
        · rw [h1] at hq
          have e : g' = q := Option.some.inj hq
          exact .inr (e ▸ h2)

theorem cRead (F : Nat → Prop) (p : Nat) (M : Recs) (most : Int) (lost : Bool) (pos : Int) (w : World) (h : COwn F w p M most lost) :
    Calls Try.prog 16 #[.pointer (some ⟨p, 0, none⟩), .int .i64 pos] w fun e w' => ∃ v, e = .returned (.tuple #[v, .int .i64 (readM M lost pos).2]) ∧ OutB w w' v (readM M lost pos).1 ∧ Below w.heap.size w w' := by
  have h0 := h
  obtain ⟨lv, R, hM, hc, hp, ho, hrg⟩ := h
  have hlen : R.length = M.length := by rw [← hM]; simp
  cases lost with
  | true =>
    refine (read_lost p lv R most pos w hc).mono fun e w' ⟨he, hw⟩ => ?_
    subst hw
    exact ⟨_, he, .inl ⟨rfl, rfl⟩, Below.refl _ _⟩
  | false =>
    have none_ : (pos < 0 ∨ R.length ≤ pos) → readM M false pos = ([], 5) := by
      intro hn
      unfold readM
      rw [if_neg (by simp)]
      by_cases hneg : pos < 0
      · rw [if_pos hneg]
      · rw [if_neg hneg, List.getElem?_eq_none (by omega)]
    by_cases hn : pos < 0 ∨ R.length ≤ pos
    · rw [none_ hn]
      refine (read_none p lv R most pos w hc hn).mono fun e w' ⟨he, hw⟩ => ?_
      subst hw
      exact ⟨_, he, .inl ⟨rfl, rfl⟩, Below.refl _ _⟩
    · obtain ⟨i, rfl⟩ := Int.eq_ofNat_of_zero_le (show 0 ≤ pos by omega)
      have hi : i < R.length := by omega
      have hr : R[i]? = some R[i] := List.getElem?_eq_getElem hi
      have hm : M[i]? = some (R[i].bytes, R[i].rot) := by rw [map_get hM, hr]; rfl
      have e1 : readM M false (i : Int) = if R[i].rot then ([], 10) else (R[i].bytes, 0) := by
        unfold readM
        rw [if_neg (by simp), if_neg (by omega), Int.toNat_natCast, hm]
      rcases hc.form with ⟨_, h1⟩ | ⟨g, cap, rfl, _, _⟩
      · rw [h1] at hi; simp at hi
      cases hrot : R[i].rot with
      | true =>
        rw [e1, hrot]
        refine (read_rot p g cap R most i _ w hc hr hrot).mono fun e w' ⟨he, hw⟩ => ?_
        subst hw
        exact ⟨_, he, .inl ⟨rfl, rfl⟩, Below.refl _ _⟩
      | false =>
        rw [e1, hrot]
        have hok := hc.recs _ (List.mem_of_getElem? hr)
        refine (read_ok p g cap R most i _ w hc hr hrot).mono fun e w' ⟨g', he, hg', hrow, hb⟩ => ?_
        have hsz := hok.size
        have hs := hok.short
        exact ⟨_, he, .inr ⟨g', R[i].len, by rw [show (if false = true then (([] : List UInt8), (10 : Int)) else (R[i].bytes, 0)).1 = R[i].bytes from rfl, hsz], hg', by show R[i].bytes.length ≤ _; omega, by simp only [maxLen]; omega, hrow⟩, hb⟩

theorem cRot (F : Nat → Prop) (p : Nat) (M : Recs) (most : Int) (lost : Bool) (pos : Int) (w : World) (h : COwn F w p M most lost) :
    Calls Try.prog 18 #[.pointer (some ⟨p, 0, none⟩), .int .i64 pos] w fun e w' => e = .returned (.bool (rotM M lost pos).1) ∧ ∃ F', COwn F' w' p (rotM M lost pos).2 most lost ∧ Took F F' w w' := by
  have h0 := h
  obtain ⟨lv, R, hM, hc, hp, ho, hrg⟩ := h
  have hlen : R.length = M.length := by rw [← hM]; simp
  cases lost with
  | true =>
    exact (rot_no _ pos w (.inr ⟨p, lv, R, most, rfl, hc⟩)).mono fun e w' ⟨he, hw⟩ => ⟨he, h0.same hw⟩
  | false =>
    by_cases hn : pos < 0 ∨ R.length ≤ pos
    · have e1 : rotM M false pos = (false, M) := by
        unfold rotM
        rw [if_neg (by simp)]
        by_cases hneg : pos < 0
        · rw [if_pos hneg]
        · rw [if_neg hneg, List.getElem?_eq_none (by omega)]
      rw [e1]
      exact (rot_none p lv R most pos w hc hn).mono fun e w' ⟨he, hw⟩ => ⟨he, h0.same hw⟩
    · obtain ⟨i, rfl⟩ := Int.eq_ofNat_of_zero_le (show 0 ≤ pos by omega)
      have hi : i < R.length := by omega
      have hr : R[i]? = some R[i] := List.getElem?_eq_getElem hi
      have hm : M[i]? = some (R[i].bytes, R[i].rot) := by rw [map_get hM, hr]; rfl
      have e1 : rotM M false (i : Int) = if R[i].rot then (false, M) else (true, M.set i (R[i].bytes, true)) := by
        unfold rotM
        rw [if_neg (by simp), if_neg (by omega), Int.toNat_natCast, hm]
      rcases hc.form with ⟨_, h1⟩ | ⟨g, cap, rfl, _, _⟩
      · rw [h1] at hi; simp at hi
      cases hrot : R[i].rot with
      | true =>
        rw [e1, hrot]
        exact (rot_again p g cap R most i _ w hc hr hrot).mono fun e w' ⟨he, hw⟩ => ⟨he, h0.same hw⟩
      | false =>
        rw [e1, hrot]
        refine (rot_yes p g cap R most i _ w hc hr hrot).mono fun e w' ⟨he, h', hchg⟩ => ⟨he, ?_⟩
        exact COwn.chg hc hp ho (fun k hk => .inr (by rw [hk]; rfl)) h' (fun g hg => .inl (ho g hg)) hchg (by rw [List.map_set, hM]; rfl) (fun x hx => by
          rcases List.mem_or_eq_of_mem_set hx with hx | rfl
          · exact .inl (hrg x hx)
          · show F R[i].g ∨ _
            exact .inl (hrg _ (List.mem_of_getElem? hr)))

theorem cTear (F : Nat → Prop) (p : Nat) (M : Recs) (most : Int) (lost : Bool) (n : Int) (w : World) (h : COwn F w p M most lost) :
    Calls Try.prog 17 #[.pointer (some ⟨p, 0, none⟩), .int .i64 n] w fun e w' => e = .returned (.bool (tearM M lost n).1) ∧ ∃ F', COwn F' w' p (tearM M lost n).2 most lost ∧ Took F F' w w' := by
  have h0 := h
  obtain ⟨lv, R, hM, hc, hp, ho, hrg⟩ := h
  have hlen : R.length = M.length := by rw [← hM]; simp
  cases lost with
  | true => exact (tear_off _ n w (.inr ⟨p, lv, R, most, rfl, hc⟩)).mono fun e w' ⟨he, hw⟩ => ⟨he, h0.same hw⟩
  | false =>
    rcases Nat.eq_zero_or_pos R.length with hR | hR
    · have hR0 := List.eq_nil_of_length_eq_zero hR
      subst hR0
      have hM0 : M = [] := by rw [← hM]; rfl
      subst hM0
      exact (tear_none p lv most n w hc).mono fun e w' ⟨he, hw⟩ => ⟨he, h0.same hw⟩
    · obtain ⟨i, hi⟩ : ∃ i, R.length = i + 1 := ⟨R.length - 1, by omega⟩
      have hil : i < R.length := by omega
      have hr : R[i]? = some R[i] := List.getElem?_eq_getElem hil
      have hm : M[M.length - 1]? = some (R[i].bytes, R[i].rot) := by rw [map_get hM, show M.length - 1 = i by omega, hr]; rfl
      have hok := hc.recs _ (List.mem_of_getElem? hr)
      have hsz := hok.size
      have e1 : tearM M false n = if 0 ≤ n ∧ n < R[i].bytes.length then (true, M.set i (R[i].bytes.take n.toNat, R[i].rot)) else (false, M) := by
        unfold tearM
        rw [if_neg (by simp), hm, show M.length - 1 = i by omega]
      rcases hc.form with ⟨_, h1⟩ | ⟨g, cap, rfl, _, _⟩
      · rw [h1] at hil; simp at hil
      rw [e1]
      by_cases hn : 0 ≤ n ∧ n < R[i].bytes.length
      · rw [if_pos hn]
        obtain ⟨k, rfl⟩ := Int.eq_ofNat_of_zero_le hn.1
        refine (tear_ok p g cap R most i k _ w hc hi hr (by omega)).mono fun e w' ⟨he, h', hchg⟩ => ⟨he, ?_⟩
        exact COwn.chg hc hp ho (fun k hk => .inr (by rw [hk]; rfl)) h' (fun g hg => .inl (ho g hg)) hchg (by rw [List.map_set, hM]; rfl) (fun x hx => by
          rcases List.mem_or_eq_of_mem_set hx with hx | rfl
          · exact .inl (hrg x hx)
          · show F R[i].g ∨ _
            exact .inl (hrg _ (List.mem_of_getElem? hr)))
      · rw [if_neg hn]
        exact (tear_bad p g cap R most i _ n w hc hi hr (by omega)).mono fun e w' ⟨he, hw⟩ => ⟨he, h0.same hw⟩

theorem cLose (F : Nat → Prop) (p : Nat) (M : Recs) (most : Int) (lost : Bool) (w : World) (h : COwn F w p M most lost) :
    Calls Try.prog 26 #[.pointer (some ⟨p, 0, none⟩)] w fun e w' => e = .returned (.bool (!lost)) ∧ ∃ F', COwn F' w' p M most true ∧ Took F F' w w' := by
  have h0 := h
  obtain ⟨lv, R, hM, hc, hp, ho, hrg⟩ := h
  cases lost with
  | true =>
    refine (lose_no _ w (.inr ⟨p, lv, R, most, rfl, hc⟩)).mono fun e w' ⟨he, hw⟩ => ?_
    subst hw
    exact ⟨he, h0.same (Below.refl _ _)⟩
  | false =>
    refine (lose_yes p lv R most w hc).mono fun e w' ⟨he, h', hchg⟩ => ⟨he, ?_⟩
    exact COwn.chg hc hp ho (fun k hk => .inl hk) h' (fun g hg => .inl (ho g hg)) hchg hM (fun r hr => .inl (hrg r hr))

theorem cLost (F : Nat → Prop) (p : Nat) (M : Recs) (most : Int) (lost : Bool) (w : World) (h : COwn F w p M most lost) :
    Calls Try.prog 25 #[.pointer (some ⟨p, 0, none⟩)] w fun e w' => e = .returned (.bool lost) ∧ w = w' := by
  obtain ⟨lv, R, hM, hc, hp, ho, hrg⟩ := h
  exact lost_any p lv R most lost w hc

theorem cLen (F : Nat → Prop) (p : Nat) (M : Recs) (most : Int) (lost : Bool) (w : World) (h : COwn F w p M most lost) :
    Calls Try.prog 19 #[.pointer (some ⟨p, 0, none⟩)] w fun e w' => e = .returned (.int .i64 M.length) ∧ w = w' := by
  obtain ⟨lv, R, hM, hc, hp, ho, hrg⟩ := h
  have hlen : R.length = M.length := by rw [← hM]; simp
  rw [← hlen]
  exact len_any p lv R most lost w hc

theorem cRoom (F : Nat → Prop) (p : Nat) (M : Recs) (most : Int) (lost : Bool) (w : World) (h : COwn F w p M most lost) :
    Calls Try.prog 20 #[.pointer (some ⟨p, 0, none⟩)] w fun e w' => e = .returned (.int .i64 (if lost then 0 else most - M.length)) ∧ ∃ n, w' = w.drewN n := by
  obtain ⟨lv, R, hM, hc, hp, ho, hrg⟩ := h
  have hlen : R.length = M.length := by rw [← hM]; simp
  cases lost with
  | true => exact (room_off _ w (.inr ⟨p, lv, R, most, rfl, hc⟩)).mono fun e w' ⟨he, hw⟩ => ⟨he, 0, by rw [← hw]; rfl⟩
  | false =>
    refine (room_any p lv R most w hc).mono fun e w' ⟨he, hw⟩ => ⟨by rw [he, hlen]; rfl, hw⟩

end Go.Proofs.Ytiiilimmjoadeaa
