/- What a catalog tells of an entry. No condition beyond those that each theorem states. -/
import Derived.Test.YtmkccblcmiflfaaKC16
namespace Go.Proofs.Ytmkccblcmiflfaa
open Go.RowKit Go.Maps Go.WideMaps

/-- An entry that a call hands out. -/
def EntOut (w0 w : World) (k : Str) (e : EntV) (v : Value) : Prop :=
  ∃ B, v = .agg #[encStr k, .int .i64 e.gen, .int .i64 e.size, encStr e.sum, .slice B e.places.length e.places.length] ∧ OutAt w0 w 40 (.slice B e.places.length e.places.length) e.places.length (placeVals e.places)
def zeroV : EntV := ⟨0, 0, [], []⟩
theorem EntOut.below {w0 w w' : World} {k : Str} {e : EntV} {v : Value} (h : EntOut w0 w k e v) (hb : Below w.heap.size w w') : EntOut w0 w' k e v := by
  obtain ⟨B, h1, h2⟩ := h
  exact ⟨B, h1, h2.below hb⟩
theorem EntOut.old {w0 w1 w : World} {k : Str} {e : EntV} {v : Value} (h : EntOut w1 w k e v) (hz : w0.heap.size ≤ w1.heap.size) : EntOut w0 w k e v := by
  obtain ⟨B, h1, h2⟩ := h
  exact ⟨B, h1, h2.old hz⟩
section
set_option maxHeartbeats 2000000
set_option maxRecDepth 8000
theorem cCopied (k : Str) (e : EntV) (A : Option Addr) (n c : Nat) (w : World) (hf : Form A n c) (hm : n ≤ 1000000) (hp : PlacesIn w A n e.places) :
    Calls Try.prog 36 #[.agg #[encStr k, .int .i64 e.gen, .int .i64 e.size, encStr e.sum, .slice A n c]] w fun en w' => ∃ v, en = .returned v ∧ EntOut w w' k e v ∧ Below w.heap.size w w' := by
  have HP := Lib.hid hp
  have HF := Lib.hid hf
  clear hp hf
  go_enter Try.func36, Try.ntmps36
  go_wp2_with (first
    | (go_at_call 51; refine (pclone A n c e.places _ HF.out hm (by exact ⟨HP.out.1, (HP.out.2.below ((Below.refl _ _).alloc (Nat.le_refl _) _)).below ((Below.refl _ _).alloc (Nat.le_refl _) _)⟩)).mono ?_; rintro en w1 ⟨B1, k1, rfl, ho1, hb1⟩; have BE := Lib.hid (show Blk w1 w.heap.size 46 #[encStr k, .int .i64 e.gen, .int .i64 e.size, encStr e.sum, .slice A n c] from Blk.below (Blk.alloc (heap_alloc_new w _) _) hb1 (by simp; omega)); have k0 : w1.cell? ⟨w.heap.size, 0, none⟩ = some (encStr k) := BE.out.cell 0; have k1' : w1.cell? ⟨w.heap.size, 1, none⟩ = some (.int .i64 e.gen) := BE.out.cell 1; have k2' : w1.cell? ⟨w.heap.size, 2, none⟩ = some (.int .i64 e.size) := BE.out.cell 2; have k3' : w1.cell? ⟨w.heap.size, 3, none⟩ = some (encStr e.sum) := BE.out.cell 3; have k4' : w1.cell? ⟨w.heap.size, 4, none⟩ = some (.slice A n c) := BE.out.cell 4; have f4 : w1.frozen? ⟨w.heap.size, 4, none⟩ = false := BE.out.free 4; have BR := Lib.hid (show Blk w1 (w.heap.size + 1) 46 #[.string ⟨#[]⟩, .int .i64 0, .int .i64 0, .string ⟨#[]⟩, .slice none 0 0] from by have h := Blk.below (heap_alloc_new (w.alloc (.cells #[encStr k, .int .i64 e.gen, .int .i64 e.size, encStr e.sum, .slice A n c] 46)) (.cells #[.string ⟨#[]⟩, .int .i64 0, .int .i64 0, .string ⟨#[]⟩, .slice none 0 0] 46)) hb1 (by simp); rw [World.size_alloc] at h; exact h); have m0 : w1.cell? ⟨w.heap.size + 1, 0, none⟩ = some (.string ⟨#[]⟩) := BR.out.cell 0; have mf0 : w1.frozen? ⟨w.heap.size + 1, 0, none⟩ = false := BR.out.free 0; have m1 : w1.cell? ⟨w.heap.size + 1, 1, none⟩ = some (.int .i64 0) := BR.out.cell 1; have mf1 : w1.frozen? ⟨w.heap.size + 1, 1, none⟩ = false := BR.out.free 1; have m2 : w1.cell? ⟨w.heap.size + 1, 2, none⟩ = some (.int .i64 0) := BR.out.cell 2; have mf2 : w1.frozen? ⟨w.heap.size + 1, 2, none⟩ = false := BR.out.free 2; have m3 : w1.cell? ⟨w.heap.size + 1, 3, none⟩ = some (.string ⟨#[]⟩) := BR.out.cell 3; have mf3 : w1.frozen? ⟨w.heap.size + 1, 3, none⟩ = false := BR.out.free 3; have m4 : w1.cell? ⟨w.heap.size + 1, 4, none⟩ = some (.slice none 0 0) := BR.out.cell 4; have mf4 : w1.frozen? ⟨w.heap.size + 1, 4, none⟩ = false := BR.out.free 4; have O1 := Lib.hid ho1; have HB1 := Lib.hid hb1; obtain ⟨B1', c1', e1, hn1, hc1, hB1⟩ := own_form ho1; cases e1; clear ho1 hb1)
    | (go_at_call 58; refine (clip_place B1 _ k1 _ hn1 hc1 hB1).mono ?_; rintro en w2 ⟨rfl, rfl⟩))
  clear k0 k1' k2' k3' k4' f4 m0 mf0 m1 mf1 m2 mf2 m3 mf3 m4 mf4 BE
  obtain ⟨w3, hw3⟩ : ∃ w3 : World, w3 = ((((((w1.setCell ⟨w.heap.size, 4, none⟩ (.slice B1 n n)).setCell ⟨w.heap.size + 1, 0, none⟩ (encStr k)).setCell ⟨w.heap.size + 1, 1, none⟩ (.int .i64 e.gen)).setCell ⟨w.heap.size + 1, 2, none⟩ (.int .i64 e.size)).setCell ⟨w.heap.size + 1, 3, none⟩ (encStr e.sum)).setCell ⟨w.heap.size + 1, 4, none⟩ (.slice B1 n n)) := ⟨_, rfl⟩
  have hchg : Chg (fun q => q = w.heap.size ∨ q = w.heap.size + 1) w1 w3 := by
    rw [hw3]
    exact ((((((Chg.refl _ w1).store (.inl (.inl rfl)) _).store (.inl (.inr rfl)) _).store (.inl (.inr rfl)) _).store (.inl (.inr rfl)) _).store (.inl (.inr rfl)) _).store (.inl (.inr rfl)) _
  have hblk : Blk w3 (w.heap.size + 1) 46 #[encStr k, .int .i64 e.gen, .int .i64 e.size, encStr e.sum, .slice B1 n n] := by
    rw [hw3]
    exact (((((BR.out.apart (p := ⟨w.heap.size, 4, none⟩) (by simp) _).store 0 _).store 1 _).store 2 _).store 3 _).store 4 _
  have hz1 : w.heap.size + 2 ≤ w1.heap.size := by have := HB1.out.size; simpa using this
  have hbl1 : Below w.heap.size w w1 := (((Below.refl _ w).alloc (Nat.le_refl _) _).alloc (by simp) _).trans (HB1.out.mono (by simp; omega))
  have hbl : Below w.heap.size w w3 := hbl1.trans (hchg.below (by omega) (fun i hi => by omega))
  have hn : e.places.length = n := HP.out.1
  have hout : OutAt w w3 40 (.slice B1 n n) n (placeVals e.places) := by
    rcases OutAt.of_own (w0 := ((w.alloc _).alloc _)) O1.out with h | ⟨g, h1, h2, h3⟩
    · exact .inl h
    · have h2' : w.heap.size + 2 ≤ g := by simpa using h2
      exact .inr ⟨g, h1, by omega, h3.of_eq (hchg.block g h3.size (by omega))⟩
  clear O1 HB1 BR hchg hbl1
  change bodyPost _ _ _ _ _ ((((((w1.setCell ⟨w.heap.size, 4, none⟩ (.slice B1 n n)).setCell ⟨w.heap.size + 1, 0, none⟩ (encStr k)).setCell ⟨w.heap.size + 1, 1, none⟩ (.int .i64 e.gen)).setCell ⟨w.heap.size + 1, 2, none⟩ (.int .i64 e.size)).setCell ⟨w.heap.size + 1, 3, none⟩ (encStr e.sum)).setCell ⟨w.heap.size + 1, 4, none⟩ (.slice B1 n n))
  rw [← hw3]
  clear hw3
  refine bodyPost_ret (results_cell_row rfl _ w3 (w.heap.size + 1) 46 _ (0, 0) _ rfl hblk Try.underlying46 rfl (by kernel_rfl)) rfl ?_
  refine ⟨_, rfl, ⟨B1, ?_, ?_⟩, hbl⟩
  · rw [hn]
  · rw [hn]; exact hout
theorem cEntry_nil (k : Value) (w : World) : Calls Try.prog 16 #[.pointer none, k] w fun e w' => e = .returned (.tuple #[zeroEnt, .bool false]) ∧ Below w.heap.size w w' := by
  go_enter Try.func16, Try.ntmps16
  go_wp2
  (try simp only [Exit.inBlock, Exit.then])
  refine bodyPost_ret (v := .tuple #[zeroEnt, .bool false]) ?_ rfl ⟨rfl, (Below.refl _ w).alloc (Nat.le_refl _) _⟩
  rw [results_cell_tmp rfl]
  go_simp
  rfl
/-- What is told of an entry. -/
def entC (C : CV) (key : Str) : EntV := getL zeroV C.entries key
def EntTold (C : CV) (key : Str) (w w' : World) (e : Ending) : Prop :=
  ∃ v, e = .returned (.tuple #[v, .bool (hasL C.entries key)]) ∧ EntOut w w' (if hasL C.entries key then key else []) (entC C key) v
theorem getR {ER : List EntR} {E : List (Str × EntV)} (h : ER.map (fun r => (r.key, r.e)) = E) (key : Str) (hh : hasL E key = true) :
    ∃ r ∈ ER, r.key = key ∧ r.e = getL zeroV E key ∧ getL zeroEnt (entVals ER) key = entVal r := by
  subst h
  induction ER with
  | nil => cases hh
  | cons r ER ih =>
    by_cases hk : r.key = key
    · exact ⟨r, by simp, hk, by simp [getL, hk], by simp [getL, entVals, hk]⟩
    · have hh' : hasL (ER.map fun r => (r.key, r.e)) key = true := by simpa [hasL, hk] using hh
      obtain ⟨r', h1, h2, h3, h4⟩ := ih hh'
      refine ⟨r', by simp [h1], h2, ?_, ?_⟩
      · rw [h3]; simp [getL, hk]
      · rw [← h4]; simp [getL, entVals, hk]
theorem cEntry (F : Nat → Prop) (p N : Nat) (C : CV) (key : Str) (w : World) (h : CatAt F w p N C) (hk : key.length ≤ maxLen) :
    Calls Try.prog 16 #[.pointer (some ⟨p, 0, none⟩), encStr key] w fun e w' => EntTold C key w w' e ∧ Below w.heap.size w w' := by
  obtain ⟨sv, tv, SR, ER, be, bb, br, hr⟩ := h
  have c1 : w.cell? ⟨p, 1, none⟩ = some (.map (some be)) := hr.blk.cell 1
  have hpz : p < w.heap.size := hr.blk.size
  obtain ⟨W0, hW0⟩ : ∃ W0 : World, W0 = w.alloc (.cells #[.string ⟨#[]⟩, .int .i64 0, .int .i64 0, .string ⟨#[]⟩, .slice none 0 0] 46) := ⟨_, rfl⟩
  have hlk := (hr.below (w' := W0) (by rw [hW0]; exact (Below.refl _ w).alloc (Nat.le_refl _) _)).lookE hk
  rw [hW0] at hlk
  obtain ⟨k, ev, A, n, c, hg, hkk, hev, hf, hm, hp⟩ : ∃ k ev A n c, getL zeroEnt (entVals ER) key = .agg #[encStr k, .int .i64 ev.gen, .int .i64 ev.size, encStr ev.sum, .slice A n c] ∧ k = (if hasL C.entries key then key else []) ∧ ev = entC C key ∧ Form A n c ∧ n ≤ 1000000 ∧ PlacesIn w A n ev.places := by
    cases hE : hasL C.entries key with
    | false =>
      refine ⟨[], zeroV, none, 0, 0, ?_, by simp, ?_, ⟨Nat.le_refl _, Nat.zero_le _, fun _ => ⟨rfl, rfl⟩⟩, Nat.zero_le _, rfl, .inl ⟨rfl, rfl⟩⟩
      · rw [getL_no _ (by rw [hasL_ents hr.entr]; exact hE)]; rfl
      · exact (getL_no _ hE).symm
    | true =>
      obtain ⟨r, h1, h2, h3, h4⟩ := getR hr.entr key hE
      have hok := orow_src (hr.entb r h1)
      have hw := hr.wf.ents (r.key, r.e) (by rw [← hr.entr]; exact List.mem_map.2 ⟨r, h1, rfl⟩)
      have hlen : r.e.places.length = r.n := by
        have := (hr.entb r h1).1.1
        rw [placeVals_len] at this
        omega
      refine ⟨r.key, r.e, r.A, r.n, r.c, h4, by simp [h2], h3, hok.2, ?_, hlen, hok.1⟩
      have h7 := hw.2.2.2.2.2.2.1
      have h6 := hw.2.2.2.2.2.1
      simp only at h7 h6
      omega
  rw [hg] at hlk
  have HP := Lib.hid hp
  have HF := Lib.hid hf
  have HK := Lib.hid hkk
  have HE := Lib.hid hev
  clear hr hg hp hf hkk hev
  generalize hgb : hasL C.entries key = hb at hlk
  have HGB := Lib.hid hgb
  clear hgb
  go_enter Try.func16, Try.ntmps16
  go_wp2_with (go_at_call 36; refine (cCopied k ev A n c _ HF.out hm (by exact ⟨HP.out.1, (HP.out.2.below ((Below.refl _ _).alloc (Nat.le_refl _) _)).below ((Below.refl _ _).alloc (Nat.le_refl _) _)⟩)).mono ?_; rintro en w1 ⟨v, rfl, ⟨B1, rfl, ho1⟩, hb1⟩; have BR := Lib.hid (show Blk w1 w.heap.size 46 #[.string ⟨#[]⟩, .int .i64 0, .int .i64 0, .string ⟨#[]⟩, .slice none 0 0] from Blk.below (Blk.alloc (heap_alloc_new w _) _) hb1 (by simp; omega)); have m0 : w1.cell? ⟨w.heap.size, 0, none⟩ = some (.string ⟨#[]⟩) := BR.out.cell 0; have mf0 : w1.frozen? ⟨w.heap.size, 0, none⟩ = false := BR.out.free 0; have m1 : w1.cell? ⟨w.heap.size, 1, none⟩ = some (.int .i64 0) := BR.out.cell 1; have mf1 : w1.frozen? ⟨w.heap.size, 1, none⟩ = false := BR.out.free 1; have m2 : w1.cell? ⟨w.heap.size, 2, none⟩ = some (.int .i64 0) := BR.out.cell 2; have mf2 : w1.frozen? ⟨w.heap.size, 2, none⟩ = false := BR.out.free 2; have m3 : w1.cell? ⟨w.heap.size, 3, none⟩ = some (.string ⟨#[]⟩) := BR.out.cell 3; have mf3 : w1.frozen? ⟨w.heap.size, 3, none⟩ = false := BR.out.free 3; have m4 : w1.cell? ⟨w.heap.size, 4, none⟩ = some (.slice none 0 0) := BR.out.cell 4; have mf4 : w1.frozen? ⟨w.heap.size, 4, none⟩ = false := BR.out.free 4; have O1 := Lib.hid ho1; have HB1 := Lib.hid hb1; clear ho1 hb1)
  clear m0 mf0 m1 mf1 m2 mf2 m3 mf3 m4 mf4
  obtain ⟨w3, hw3⟩ : ∃ w3 : World, w3 = ((((w1.setCell ⟨w.heap.size, 0, none⟩ (encStr k)).setCell ⟨w.heap.size, 1, none⟩ (.int .i64 ev.gen)).setCell ⟨w.heap.size, 2, none⟩ (.int .i64 ev.size)).setCell ⟨w.heap.size, 3, none⟩ (encStr ev.sum)).setCell ⟨w.heap.size, 4, none⟩ (.slice B1 ev.places.length ev.places.length) := ⟨_, rfl⟩
  have hchg : Chg (fun q => q = w.heap.size) w1 w3 := by
    rw [hw3]
    exact (((((Chg.refl (fun q => q = w.heap.size) w1).store (p := ⟨w.heap.size, 0, none⟩) (.inl rfl) _).store (.inl rfl) _).store (.inl rfl) _).store (.inl rfl) _).store (.inl rfl) _
  have hblk : Blk w3 w.heap.size 46 #[encStr k, .int .i64 ev.gen, .int .i64 ev.size, encStr ev.sum, .slice B1 ev.places.length ev.places.length] := by
    rw [hw3]
    exact ((((BR.out.store 0 _).store 1 _).store 2 _).store 3 _).store 4 _
  have hz1 : w.heap.size + 2 ≤ w1.heap.size := by have := HB1.out.size; simpa using this
  have hbl1 : Below w.heap.size w w1 := (((Below.refl _ w).alloc (Nat.le_refl _) _).alloc (by simp) _).trans (HB1.out.mono (by simp; omega))
  have hbl : Below w.heap.size w w3 := hbl1.trans (hchg.below (by omega) (fun i hi => by omega))
  have hout : OutAt w w3 40 (.slice B1 ev.places.length ev.places.length) ev.places.length (placeVals ev.places) := by
    rcases O1.out with h | ⟨g, h1, h2, h3⟩
    · exact .inl h
    · have h2' : w.heap.size + 2 ≤ g := by simpa using h2
      exact .inr ⟨g, h1, by omega, h3.of_eq (hchg.block g h3.size (by omega))⟩
  clear O1 HB1 BR hchg hbl1
  change bodyPost _ _ _ _ _ (((((w1.setCell ⟨w.heap.size, 0, none⟩ (encStr k)).setCell ⟨w.heap.size, 1, none⟩ (.int .i64 ev.gen)).setCell ⟨w.heap.size, 2, none⟩ (.int .i64 ev.size)).setCell ⟨w.heap.size, 3, none⟩ (encStr ev.sum)).setCell ⟨w.heap.size, 4, none⟩ (.slice B1 ev.places.length ev.places.length))
  rw [← hw3]
  have q0 : w3.cell? ⟨w.heap.size, 0, none⟩ = some (encStr k) := hblk.cell 0
  have q1 : w3.cell? ⟨w.heap.size, 1, none⟩ = some (.int .i64 ev.gen) := hblk.cell 1
  have q2 : w3.cell? ⟨w.heap.size, 2, none⟩ = some (.int .i64 ev.size) := hblk.cell 2
  have q3 : w3.cell? ⟨w.heap.size, 3, none⟩ = some (encStr ev.sum) := hblk.cell 3
  have q4 : w3.cell? ⟨w.heap.size, 4, none⟩ = some (.slice B1 ev.places.length ev.places.length) := hblk.cell 4
  clear hw3
  refine bodyPost_ret (v := .tuple #[.agg #[encStr k, .int .i64 ev.gen, .int .i64 ev.size, encStr ev.sum, .slice B1 ev.places.length ev.places.length], .bool hb]) ?_ rfl ⟨⟨_, by rw [HGB.out], ?_⟩, hbl⟩
  · rw [results_cell_tmp rfl]
    go_simp
  · rw [← HK.out, ← HE.out]
    exact ⟨B1, rfl, hout⟩
end
end Go.Proofs.Ytmkccblcmiflfaa
