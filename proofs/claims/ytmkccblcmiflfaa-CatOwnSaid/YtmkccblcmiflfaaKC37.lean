/- The law CatOwn returns true on values. No condition beyond those that each theorem states. -/
import Derived.Test.YtmkccblcmiflfaaKP7
import Derived.WalkSpells
import Derived.WalkLawsBesides
namespace Go.Proofs.Ytmkccblcmiflfaa
open Go.RowKit Go.Maps Go.WideMaps

theorem made_pl {gn : Nat} (h1 : 1 ≤ gn) (h4 : gn ≤ 4) : (madeCells (Value.agg #[.int .i64 0, .int .i64 0]).cells (10 * gn * 2)).toList = placeVals (List.replicate (10 * gn) (0, 0)) := by
  obtain rfl | rfl | rfl | rfl : gn = 1 ∨ gn = 2 ∨ gn = 3 ∨ gn = 4 := by omega
  all_goals kernel_rfl
theorem wf_of {x : Nat} (h : x ≤ 1000000) : (Lit.int .i64 (x : Int)).wf = true := by
  simp [Lit.wf, IntKind.min, IntKind.max, IntKind.signed, IntKind.bits]
  omega
theorem RowAt.made (w : World) (t : TypeId) (cs : Array Value) : RowAt (w.alloc (.cells cs t)) w.heap.size t cs.toList := ⟨cs, heap_alloc_new w _, List.take_of_length_le (Nat.le_refl _)⟩
theorem zero_places {q j : Nat} (h : j < q) : (List.replicate q ((0, 0) : Int × Int))[j]? = some (0, 0) := by simp [h]
theorem OutAt.bytes {w0 w : World} {v : Value} {l : Str} (h : OutAt w0 w 5 v l.length (byteVals l)) : ∃ B, v = .slice B l.length l.length ∧ BytesIn w B l.length l ∧ (l.length = 0 ∨ ∃ g, B = some ⟨g, 0, none⟩ ∧ w0.heap.size ≤ g ∧ SomeBytes w g l.length) := by
  rcases h with ⟨rfl, h0, _⟩ | ⟨g, rfl, h1, h2⟩
  · have e : l = [] := List.eq_nil_of_length_eq_zero h0
    subst e
    exact ⟨none, rfl, BytesIn.empty _ _, .inl rfl⟩
  · exact ⟨_, rfl, h2.bytesIn, .inr ⟨g, rfl, h1, l, rfl, h2⟩⟩
theorem own_data {l : Str} {sz : Int} {zs : Pls} {w w' : World} {e : Ending} (h : DataTold (own3 l sz zs) [97] w w' e) :
    ∃ v, e = .returned (.tuple #[v, .bool true]) ∧ OutAt w w' 5 v l.length (byteVals l) := by
  rcases h with ⟨h1, _⟩ | ⟨d, v, ⟨i, _, hi⟩, _, rfl, ho⟩
  · exact absurd h1 (by simp [hasL, own3])
  · have hm := List.mem_of_getElem? hi
    obtain rfl : d = l := by simpa [own3] using hm
    exact ⟨v, rfl, ho⟩
theorem RowAt.ty {w : World} {g : Nat} {t t' : TypeId} {xs ys : List Value} (h : RowAt w g t xs) (h' : RowAt w g t' ys) : t = t' := by
  obtain ⟨cs, h, _⟩ := h
  obtain ⟨cs', h', _⟩ := h'
  rw [h] at h'
  injection h' with h'
  injection h' with _ ht _
theorem cso {w : World} {a i g j : Nat} {v u : Value} (h : w.cell? ⟨a, i, none⟩ = some v) (hne : a ≠ g) : (w.setCell ⟨g, j, none⟩ u).cell? ⟨a, i, none⟩ = some v := (World.cell?_of_block (a := ⟨a, i, none⟩) (Below.heap_setCell _ _ _ _ hne)).trans h
theorem below_dr {B : Nat} {w w' : World} (h : Below B w w') : Below B w w'.drew := ⟨h.os, h.tape, h.output, h.size, h.block⟩
theorem len_one {α : Type} {l : List α} (h : l.length = 1) : ∃ a, l = [a] := by
  match l, h with
  | [a], _ => exact ⟨a, rfl⟩
theorem len_three {α : Type} {l : List α} (h : l.length = 3) : ∃ a b c, l = [a, b, c] := by
  match l, h with
  | [a, b, c], _ => exact ⟨a, b, c, rfl⟩
theorem own_entries {l : Str} {sz : Int} {zs : Pls} {q : Nat} {w w' : World} {v : Value} {PL : List EntP} (hq : 0 < q) (hz : zs.length = q) (h : EntsOut w w' v (entsC (own3 l sz zs)) PL) :
    ∃ lg lp, v = .slice (some ⟨lg, 0, none⟩) 1 1 ∧ w.heap.size ≤ lg ∧ RowAt w' lg 46 (entPVals PL) ∧ w'.cell? ⟨lg, 4, none⟩ = some (.slice (some ⟨lp, 0, none⟩) q q) ∧ w.heap.size ≤ lp ∧ SomePl w' lp q := by
  obtain ⟨h1, h2, h3⟩ := h
  rw [own_ents] at h1 h2
  obtain ⟨r, rfl⟩ := len_one (by have := congrArg List.length h2; rwa [List.length_map] at this)
  have he : r.e = ownE sz zs := by
    have : (r.key, r.e) = (([98] : Str), ownE sz zs) := by simpa using h2
    exact (Prod.mk.inj this).2
  have hp : r.e.places.length = q := by rw [he]; exact hz
  have hok := h3 r (by simp)
  unfold EntPOk at hok
  rw [hp] at hok
  rcases hok with ⟨_, h0, _⟩ | ⟨lp, hlp, hl2, hl3⟩
  · omega
  · rcases h1 with ⟨_, h0, _⟩ | ⟨lg, h4, h5, h6⟩
    · exact absurd h0 (by simp)
    · refine ⟨lg, lp, h4, h5, h6, ?_, hl2, r.e.places, hp, hl3⟩
      have hb : r.B = some ⟨lp, 0, none⟩ := by injection hlp
      rw [h6.cell (i := 4) (u := .slice r.B r.e.places.length r.e.places.length) rfl, hb, hp]
theorem own_noted {l : Str} {sz : Int} {zs : Pls} {q n : Nat} {w w' : World} {NB : Option Addr} {nc : Nat} (hq : 0 < q) (hz : zs.length = q) (hl : l.length = n) (h : NSt w w' (.slice NB 3 nc) [putN ([97], l), genN ([], 5), placedN ([98], ownE sz zs)]) :
    ∃ ng D0 c0 np c2, NB = some ⟨ng, 0, none⟩ ∧ w.heap.size ≤ ng ∧ (∃ xs, RowAt w' ng 26 xs) ∧ w'.cell? ⟨ng, 4, none⟩ = some (.slice D0 n c0) ∧ ((D0 = none ∧ n = 0) ∨ ∃ g, D0 = some ⟨g, 0, none⟩ ∧ w.heap.size ≤ g ∧ SomeBytes w' g n) ∧ w.heap.size ≤ np ∧ w'.cell? ⟨ng, 23, none⟩ = some (.slice (some ⟨np, 0, none⟩) q c2) ∧ SomePl w' np q := by
  obtain ⟨NP, h1, h2, h3, h4⟩ := h
  obtain ⟨r0, r1, r2, rfl⟩ := len_three (by have := congrArg List.length h1; rwa [List.length_map] at this)
  have e0 : r0.v = putN ([97], l) := by have := List.cons.inj h1; exact this.1
  have e2 : r2.v = placedN ([98], ownE sz zs) := by have := (List.cons.inj (List.cons.inj (List.cons.inj h1).2).2).1; exact this
  have hd : r0.v.data.length = n := by rw [e0]; exact hl
  have hp : r2.v.places.length = q := by rw [e2]; exact hz
  obtain ⟨B', c', e, _, _, ⟨_, h0, _⟩ | ⟨ng, rfl⟩⟩ := own_form h2
  · exact absurd h0 (by simp)
  · cases e
    have hrow := RowAt.of_own h2
    have hg := h2.lt ng rfl
    have p0 := (h3 r0 (by simp)).data
    have p2 := (h3 r2 (by simp)).places
    rw [hd] at p0
    rw [hp] at p2
    rcases p2 with ⟨_, h0, _⟩ | ⟨np, hnp, hn2, hn3, _⟩
    · omega
    · refine ⟨ng, r0.D, r0.dc, np, r2.qc, rfl, hg.1, ⟨_, hrow⟩, ?_, ?_, hn2, ?_, r2.v.places, hp, hn3⟩
      · rw [hrow.cell (i := 4) (u := .slice r0.D r0.v.data.length r0.dc) rfl, hd]
      · rcases p0 with ⟨hA, h0, _⟩ | ⟨g, hg1, hg2, hg3, _⟩
        · exact .inl ⟨hA, h0⟩
        · exact .inr ⟨g, hg1, hg2, r0.v.data, hd, hg3⟩
      · rw [hrow.cell (i := 23) (u := .slice r2.Q r2.v.places.length r2.qc) rfl, hp, hnp]
theorem own_entry {l : Str} {sz : Int} {zs : Pls} {q : Nat} {w w' : World} {e : Ending} (hq : 0 < q) (hz : zs.length = q) (h : EntTold (own3 l sz zs) [98] w w' e) :
    ∃ ep, e = .returned (.tuple #[.agg #[encStr [98], .int .i64 2, .int .i64 sz, encStr [], .slice (some ⟨ep, 0, none⟩) q q], .bool true]) ∧ w.heap.size ≤ ep ∧ RowAt w' ep 40 (placeVals zs) := by
  obtain ⟨v, rfl, B, rfl, ho⟩ := h
  have hh : hasL (own3 l sz zs).entries [98] = true := by simp [hasL, own3]
  have he : entC (own3 l sz zs) [98] = ownE sz zs := rfl
  rw [he] at ho
  rw [hh, he]
  have hz' : (ownE sz zs).places.length = q := hz
  rw [hz'] at ho ⊢
  rcases ho with ⟨_, h0, _⟩ | ⟨ep, h1, h2, h3⟩
  · omega
  · have hb : B = some ⟨ep, 0, none⟩ := by injection h1
    exact ⟨ep, by rw [hb]; rfl, h2, h3⟩
section
set_option maxHeartbeats 16000000
set_option maxRecDepth 100000
theorem cGroups13 (n : Int) (w : World) (h0 : 0 ≤ n) (h1 : n ≤ 512) :
    Calls Try.prog 12 #[.int .i64 n] w fun e w' => e = .returned (.int .i64 (groupsI n)) ∧ w = w' := by
  go_enter Try.func12, Try.ntmps12
  go_wp2_with fail
  go_loopw [3] (fun i wx => ∃ k : Nat, i = .int .i64 k ∧ 1 ≤ k ∧ k ≤ 4 ∧ (k = 1 ∨ ((k : Int) - 1) * 128 < n) ∧ wx = w) (fun i _ => 5 - (intOf i).toNat)
  case atStart => exact ⟨1, rfl, Nat.le_refl _, by omega, .inl rfl, rfl⟩
  case round =>
    obtain ⟨k, rfl, hk1, hk4, hk, rfl⟩ := hrel
    by_cases hlt : (k : Int) * 128 < n
    · have d1 : decide ((k : Int) * 128 < n) = true := by simpa using hlt
      go_wp2_with fail
      go_roundw
      case rel => exact ⟨k + 1, by go_num, by omega, by omega, .inr (by omega), by trivial⟩
      case measure => simp [intOf]; omega
    · have d1 : decide ((k : Int) * 128 < n) = false := by simpa using hlt
      go_wp2_with fail
      go_ret
      exact ⟨ret_i (by unfold groupsI; omega), rfl⟩
theorem catOwn_walk (A : Option Addr) (n c : Nat) (l : Str) (sv : Nat) (t : Int) (w : World) (hf : Form A n c) (h : BytesIn w A n l) (hsv : sv < 65536) :
    Calls Try.prog 4 #[.slice A n c, .int .u16 sv, .int .u8 t] w fun e w' => e = .returned (.bool true) ∧ Below w.heap.size w w' := by
  obtain ⟨i0, hi0, hz0, hz1, hz2⟩ := info_parts byte_info
  obtain ⟨j0, hj0, hy0, hy1, hy2⟩ := info_parts place_info
  have H := Lib.hid h
  have HF := Lib.hid hf
  have HLN := Lib.hid h.1
  have hn63 : n ≤ 9223372036854775807 := by have h1 := hf.1; have h2 := hf.2.1; simp only [maxLen] at h2; omega
  clear h hf
  go_enter Try.func4, Try.ntmps4
  by_cases hbig : 512 < n
  · have d1 : decide (512 < n) = true := by simpa using hbig
    have d1' : decide ((512 : Int) < n) = true := by simp; omega
    go_wp2_with fail
    refine (awake13 _).mono ?_
    rintro e w4 ⟨rfl, hb4⟩
    have B4 := Lib.hid hb4
    clear hb4
    go_wp2_with fail
    go_ret
    exact ⟨rfl, B4.out⟩
  have d1 : decide (512 < n) = false := by simpa using hbig
  have d1' : decide ((512 : Int) < n) = false := by simp; omega
  have hn5 : n ≤ 512 := by omega
  clear hbig
  go_upto_region 3 with fail
  go_cut [7] (fun s5 wx => ∃ X cx, s5 = .slice X n cx ∧ Bys wx w.heap.size X n cx l ∧ Below w.heap.size w wx)
  case first =>
    go_wp2_with (
      (at_builtin
       refine wpList_append_src _ rfl (.tmp 26) (.tmp 27) 23 rfl w.heap.size 5 i0 _ 1 1 Try.underlying23 hi0 hz0 hz1 hz2 rfl (by omega) _ 0 [] rfl (by exact own_made w _ 1 rfl (Nat.le_refl _)) A n c (byteVals l) rfl (by rw [byteVals_length, H.out.1, Nat.mul_one]) (fun e => (HF.out.2.2 e).1) (by exact (H.out.below ((Below.refl _ _).alloc (Nat.le_refl _) _)).src) (byteVals_one l) (by simp only [maxLen]; omega) (by omega) (by simp) ?_
       intro v1 w1 hown hgr hat
       have OW := Lib.hid hown
       have GR := Lib.hid hgr
       clear hown hgr hat))
    go_meet
    have hbb : Below w.heap.size w w1 := ((Below.refl _ _).alloc (Nat.le_refl _) _).grown GR.out (by simp) (fun q hq => by have h : w.heap.size = q := Option.some.inj hq; omega)
    have h2 := OW.out
    rw [Nat.zero_add, List.nil_append] at h2
    rcases h2.2 with ⟨rfl, h0⟩ | ⟨g, cap, cur, rfl, _⟩
    · subst h0
      exact ⟨none, 0, rfl, h2, hbb⟩
    · exact ⟨_, cap, rfl, h2, hbb⟩
  case rest =>
    obtain ⟨X, cx, rfl, hbx, hb1⟩ := hcut
    obtain ⟨w1, rfl⟩ : ∃ w1 : World, w1 = wc := ⟨_, rfl⟩
    have BX := Lib.hid hbx
    have B1 := Lib.hid hb1
    have hz1' := hb1.size
    clear hbx hb1
    obtain ⟨sz, hsz⟩ : ∃ sz, sv % 513 = sz := ⟨_, rfl⟩
    have hsz5 : sz ≤ 512 := by omega
    have htm : (sv : Int).tmod 513 = (sz : Int) := by rw [Int.tmod_eq_emod_of_nonneg (by omega), ← hsz]; omega
    obtain ⟨gn, hgn⟩ : ∃ gn : Nat, groupsI (sz : Int) = gn := ⟨(groupsI (sz : Int)).toNat, by unfold groupsI; omega⟩
    have hg1 : 1 ≤ gn := by unfold groupsI at hgn; omega
    have hg4 : gn ≤ 4 := by unfold groupsI at hgn; omega
    have GN := Lib.hid hgn
    clear hsz hgn
    have hmk : ∀ W : World, (Instr.makeSlice 24 (.int .i64 (10 * (gn : Int))) (.int .i64 (10 * (gn : Int)))).run Try.prog W = .ok (.slice (some ⟨W.heap.size, 0, none⟩) (10 * gn) (10 * gn)) (W.alloc (.cells (madeCells (Value.agg #[.int .i64 0, .int .i64 0]).cells (10 * gn * 2)) 40)) := fun W => by
      have h := run_makeSlice (P := Try.prog) W 24 40 j0 _ Try.underlying24 hj0 hy0 .i64 .i64 (10 * (gn : Int)) (10 * (gn : Int)) (by omega) (by omega) (by rw [hy1]; omega) (by rw [hy2]; omega) (by omega)
      rw [hy1, show (10 * (gn : Int)).toNat = 10 * gn by omega] at h
      exact h
    go_wp2_with fail
    refine (cGroups13 (sz : Int) _ (by omega) (by omega)).mono ?_
    rw [GN.out]
    rintro e w1' ⟨rfl, rfl⟩
    go_upto_region 5 with fail
    obtain ⟨w2, hw2⟩ : ∃ w2, w2 = w1.alloc (.cells (madeCells (Value.agg #[.int .i64 0, .int .i64 0]).cells (10 * gn * 2)) 40) := ⟨_, rfl⟩
    change Code.wp _ _ _ _ (w1.alloc (.cells (madeCells (Value.agg #[.int .i64 0, .int .i64 0]).cells (10 * gn * 2)) 40))
    rw [← hw2]
    have B12 := Lib.hid (show Below w1.heap.size w1 w2 by rw [hw2]; exact (Below.refl _ _).alloc (Nat.le_refl _) _)
    have hz2w : w2.heap.size = w1.heap.size + 1 := by rw [hw2]; exact World.size_alloc _ _
    have P2 := Lib.hid (show RowAt w2 w1.heap.size 40 (placeVals (List.replicate (10 * gn) (0, 0))) by
      rw [hw2, ← made_pl hg1 hg4]
      exact RowAt.made _ _ _)
    clear hw2 hmk
    obtain ⟨q, hq⟩ : ∃ q, 10 * gn = q := ⟨_, rfl⟩
    have hq10 : 1 ≤ q := by omega
    have hq40 : q ≤ 40 := by omega
    have HQ := Lib.hid (show ((q : Nat) : Int) = groupsI (sz : Int) * 10 by rw [GN.out]; omega)
    rw [hq] at P2 ⊢
    obtain ⟨zs, hzs⟩ : ∃ zs : Pls, zs = List.replicate q (0, 0) := ⟨_, rfl⟩
    rw [← hzs] at P2
    have hzl : zs.length = q := by rw [hzs, List.length_replicate]
    have ZS := Lib.hid hzs
    have ZL := Lib.hid hzl
    clear hq hzs hzl
    go_wp2_with fail
    refine (cNew _).mono ?_
    rintro e w3 ⟨p, rfl, hp, hca, hb3⟩
    have C3 := Lib.hid hca
    have B23 := Lib.hid hb3
    have B3 := Lib.hid (show Below w.heap.size w w3 from (B1.out.trans (B12.out.mono hz1')).trans (hb3.mono (by omega)))
    have hl5 : l.length ≤ 512 := by rw [HLN.out]; exact hn5
    have X3 := Lib.hid ((BX.out.bytes.below B12.out).below B23.out)
    have XF := Lib.hid BX.out.form
    clear hca hb3
    go_wp2_with fail
    refine (cApply _ p 0 newC (ownN1 l) X n cx none 0 0 _ C3.out (by omega) ⟨XF.out, X3.out, ⟨Nat.le_refl _, by simp [maxLen], fun _ => ⟨rfl, rfl⟩⟩, ⟨rfl, .inl ⟨rfl, rfl⟩⟩, (show ([97] : Str).length ≤ maxLen by decide), Nat.zero_le _, rfl, rfl, rfl⟩ (fun h => by omega)).mono ?_
    intro e w4 hp4
    obtain ⟨rfl, F4, hc4, hf4, hg4'⟩ := hp4.next (own_ap1 hl5)
    have C4 := Lib.hid hc4
    have G4 := Lib.hid (show Below w2.heap.size w2 w4 from B23.out.trans (hg4'.below B23.out.size (fun i hi => hi)))
    have FF4 := Lib.hid (show ∀ k, F4 k → w2.heap.size ≤ k ∧ k < w4.heap.size from fun k hk => ⟨(hf4 k hk).2.elim id (fun h => Nat.le_trans B23.out.size h), (hf4 k hk).1⟩)
    clear hc4 hf4 hg4'
    go_wp2_with fail
    refine (cApply F4 p 1 (own1 l) ownN2 none 0 0 none 0 0 _ C4.out (by omega) (noteIn_lit _ _ rfl rfl (Nat.zero_le _) (Nat.zero_le _) rfl rfl rfl) (fun h => by omega)).mono ?_
    intro e w5 hp5
    obtain ⟨rfl, F5, hc5, hf5, hg5⟩ := hp5.next (own_ap2 l)
    have C5 := Lib.hid hc5
    have G5 := Lib.hid (show Below w2.heap.size w2 w5 from G4.out.trans (hg5.below G4.out.size (fun i hi => (FF4.out i hi).1)))
    have FF5 := Lib.hid (show ∀ k, F5 k → w2.heap.size ≤ k ∧ k < w5.heap.size from fun k hk => ⟨(hf5 k hk).2.elim (fun h => (FF4.out k h).1) (fun h => Nat.le_trans G4.out.size h), (hf5 k hk).1⟩)
    clear hc5 hf5 hg5
    have P5 := Lib.hid (P2.out.below' G5.out)
    have hpn5 : w1.heap.size < w5.heap.size := P5.out.size
    go_wp2_with fail
    refine (cApply F5 p 2 (own2 l) (ownN3 sz zs) none 0 0 (some ⟨w1.heap.size, 0, none⟩) q q _ C5.out (by omega) ⟨⟨Nat.le_refl _, by simp [maxLen], fun _ => ⟨rfl, rfl⟩⟩, BytesIn.empty _ _, ⟨Nat.le_refl _, by simp only [maxLen]; omega, fun e => by cases e⟩, ⟨ZL.out, OneRow.src P5.out⟩, (show ([98] : Str).length ≤ maxLen by decide), Nat.zero_le _, rfl, rfl, wf_of (by omega)⟩ (fun _ b off e hFb => by cases e; have := (FF5.out _ hFb).1; omega)).mono ?_
    intro e w6 hp6
    obtain ⟨rfl, F6, hc6, hf6, hg6⟩ := hp6.next (own_ap3 (by omega) (by omega) (by rw [ZL.out]; exact HQ.out))
    have C6 := Lib.hid hc6
    have G6 := Lib.hid (show Below w2.heap.size w2 w6 from G5.out.trans (hg6.below G5.out.size (fun i hi => (FF5.out i hi).1)))
    have FF6 := Lib.hid (show ∀ k, F6 k → w2.heap.size ≤ k ∧ k < w6.heap.size from fun k hk => ⟨(hf6 k hk).2.elim (fun h => (FF5.out k h).1) (fun h => Nat.le_trans G5.out.size h), (hf6 k hk).1⟩)
    have hz26 := G6.out.size
    have B6 := Lib.hid (show Below w.heap.size w w6 from (B1.out.trans (B12.out.mono hz1')).trans (G6.out.mono (by omega)))
    have P6 := Lib.hid (show SomePl w6 w1.heap.size q from ⟨zs, ZL.out, P2.out.below' G6.out⟩)
    have X6 := Lib.hid (show n = 0 ∨ ∃ g, X = some ⟨g, 0, none⟩ ∧ w.heap.size ≤ g ∧ g < w1.heap.size ∧ SomeBytes w6 g n by
      rcases own_form BX.out with ⟨B', c', e, _, _, ⟨rfl, h0, _⟩ | ⟨g, rfl⟩⟩
      · exact .inl h0
      · cases e
        have hgl := BX.out.lt g rfl
        refine .inr ⟨g, rfl, hgl.1, hgl.2, l, HLN.out, ((RowAt.of_own BX.out).below' B12.out).of_eq (G6.out.block g (by omega))⟩)
    clear hc6 hf6 hg6
    go_wp2_with fail
    go_loopw [10] (fun i wx => ∃ k : Nat, k ≤ n ∧ i = .int .i64 k ∧ (n = 0 ∨ ∃ g, X = some ⟨g, 0, none⟩ ∧ w.heap.size ≤ g ∧ g < w1.heap.size ∧ SomeBytes wx g n) ∧ (∀ y, w1.heap.size ≤ y → wx.heap[y]? = w6.heap[y]?) ∧ Below w.heap.size w wx ∧ w6.heap.size ≤ wx.heap.size) (fun i _ => n - (intOf i).toNat)
    case atStart => exact ⟨0, Nat.zero_le _, rfl, X6.out, fun _ _ => rfl, B6.out, Nat.le_refl _⟩
    case round =>
      obtain ⟨k, hk, rfl, hx, hkp, hbl, hzx⟩ := hrel
      obtain ⟨wo, rfl⟩ : ∃ wo : World, wo = wr := ⟨_, rfl⟩
      have XX := Lib.hid hx
      have KP := Lib.hid hkp
      have BB := Lib.hid hbl
      clear hx hkp hbl
      by_cases hlt : k < n
      · have d2 : decide (k < n) = true := by simpa using hlt
        obtain ⟨g, rfl, hg, hg1', hsb⟩ := XX.out.resolve_left (by omega)
        obtain ⟨z, hz⟩ := hsb.cell hlt
        have hfz : wo.frozen? ⟨g, k, none⟩ = false := hsb.free k
        have hgs : g < wo.heap.size := hsb.size
        obtain ⟨x0, x1⟩ := xor_range (z.toNat) t
        have SB := Lib.hid hsb
        clear hsb
        go_wp2_with fail
        go_roundw
        case rel => exact ⟨k + 1, hlt, by go_num, .inr ⟨g, rfl, hg, hg1', SB.out.store x0 x1⟩, fun y hy => (Below.heap_setCell _ _ _ _ (show y ≠ g by omega)).trans (KP.out y hy), BB.out.setCell hg _, by simpa using hzx⟩
        case measure => simp [intOf]; omega
      · have d2 : decide (k < n) = false := by simpa using hlt
        have P7 := Lib.hid (P6.out.of_eq (KP.out _ (Nat.le_refl _)))
        clear XX
        go_wp2_with fail
        go_loopw [11] (fun i wx => ∃ k : Nat, k ≤ q ∧ i = .int .i64 k ∧ SomePl wx w1.heap.size q ∧ (∀ y, w1.heap.size < y → wx.heap[y]? = w6.heap[y]?) ∧ Below w.heap.size w wx ∧ w6.heap.size ≤ wx.heap.size) (fun i _ => q - (intOf i).toNat)
        case atStart => exact ⟨0, Nat.zero_le _, rfl, P7.out, fun y hy => KP.out y (Nat.le_of_lt hy), BB.out, hzx⟩
        case round =>
          clear KP BB P7 P6 X6
          obtain ⟨k2, hk2, rfl, hx, hkp, hbl, hzx⟩ := hrel
          obtain ⟨wp, rfl⟩ : ∃ wo : World, wo = wr := ⟨_, rfl⟩
          have XX := Lib.hid hx
          have KP := Lib.hid hkp
          have BB := Lib.hid hbl
          clear hx hkp hbl
          by_cases hlt2 : k2 < q
          · have d3 : decide (k2 < q) = true := by simpa using hlt2
            obtain ⟨z, hz⟩ := XX.out.cell hlt2
            have hfz : wp.frozen? ⟨w1.heap.size, k2 * 2 + 1, none⟩ = false := XX.out.free _
            have hgs : w1.heap.size < wp.heap.size := XX.out.size
            go_wp2_with fail
            go_roundw
            case rel => exact ⟨k2 + 1, hlt2, by go_num, XX.out.store hlt2 7, fun y hy => (Below.heap_setCell _ _ _ _ (show y ≠ w1.heap.size by omega)).trans (KP.out y hy), BB.out.setCell hz1' _, by simpa using hzx⟩
            case measure => simp [intOf]; omega
          · have d3 : decide (k2 < q) = false := by simpa using hlt2
            obtain ⟨w8, rfl⟩ : ∃ x : World, x = wp := ⟨_, rfl⟩
            have C8 := Lib.hid ((CatAt.owning ..).keep _ _ _ C6.out hzx (fun k hk hF => KP.out k (by have := (FF6.out k hF).1; omega)))
            have B8 := Lib.hid BB.out
            have FF8 := Lib.hid (show ∀ k, F6 k → k < w8.heap.size from fun k hk => Nat.lt_of_lt_of_le (FF6.out k hk).2 hzx)
            clear KP BB XX
            go_wp2_with fail
            refine (cData F6 p 3 (own3 l sz zs) [97] _ C8.out).mono ?_
            rintro e w9 ⟨hdt, hb9⟩
            obtain ⟨v9, rfl, ho9⟩ := own_data hdt
            obtain ⟨Y, rfl, hy9, hs9⟩ := ho9.bytes
            rw [HLN.out] at hy9 hs9 ⊢
            have HB9 := Lib.hid hb9
            have B9 := Lib.hid (B8.out.trans (hb9.mono B8.out.size))
            have Y9 := Lib.hid hs9
            have hcv1 : (convert 23 9 (.slice Y n n)).run Try.prog w9 = .ok (encStr l) w9 := arg_string hy9
            have hcv2 : (convert 23 9 (.slice A n c)).run Try.prog w9 = .ok (encStr l) w9 := arg_string (H.out.below B9.out)
            have hz89 := HB9.out.size
            clear hdt ho9 hy9 hs9 hb9
            go_upto_region 19 with fail
            clear hcv1 hcv2
            go_wp2_with fail
            go_loopw [14] (fun i wx => ∃ k : Nat, k ≤ n ∧ i = .int .i64 k ∧ (n = 0 ∨ ∃ g, Y = some ⟨g, 0, none⟩ ∧ w8.heap.size ≤ g ∧ SomeBytes wx g n) ∧ (∀ y, y < w8.heap.size → wx.heap[y]? = w8.heap[y]?) ∧ Below w.heap.size w wx ∧ w8.heap.size ≤ wx.heap.size) (fun i _ => n - (intOf i).toNat)
            case atStart => exact ⟨0, Nat.zero_le _, rfl, Y9.out, fun y hy => HB9.out.block y hy, B9.out, hz89⟩
            case round =>
              obtain ⟨k3, hk3, rfl, hx, hkp, hbl, hzx3⟩ := hrel
              obtain ⟨wq, rfl⟩ : ∃ wo : World, wo = wr := ⟨_, rfl⟩
              have XX := Lib.hid hx
              have KP := Lib.hid hkp
              have BB := Lib.hid hbl
              have hz8 := B8.out.size
              clear hx hkp hbl
              by_cases hlt3 : k3 < n
              · have d4 : decide (k3 < n) = true := by simpa using hlt3
                obtain ⟨g, rfl, hg, hsb⟩ := XX.out.resolve_left (by omega)
                obtain ⟨z, hz⟩ := hsb.cell hlt3
                have hfz : wq.frozen? ⟨g, k3, none⟩ = false := hsb.free k3
                have hgs : g < wq.heap.size := hsb.size
                obtain ⟨x0, x1⟩ := xor_range (z.toNat) t
                have SB := Lib.hid hsb
                clear hsb
                go_wp2_with fail
                go_roundw
                case rel => exact ⟨k3 + 1, hlt3, by go_num, .inr ⟨g, rfl, hg, SB.out.store x0 x1⟩, fun y hy => (Below.heap_setCell _ _ _ _ (show y ≠ g by omega)).trans (KP.out y hy), BB.out.setCell (show w.heap.size ≤ g by omega) _, by simpa using hzx3⟩
                case measure => simp [intOf]; omega
              · have d4 : decide (k3 < n) = false := by simpa using hlt3
                obtain ⟨w10, rfl⟩ : ∃ x : World, x = wq := ⟨_, rfl⟩
                have C10 := Lib.hid ((CatAt.owning ..).keep _ _ _ C8.out hzx3 (fun k hk hF => KP.out k hk))
                have B10 := Lib.hid BB.out
                have FF10 := Lib.hid (show ∀ k, F6 k → k < w10.heap.size from fun k hk => Nat.lt_of_lt_of_le (FF8.out k hk) hzx3)
                clear KP BB XX Y9 HB9 B9
                go_wp2_with fail
                refine (cEntries F6 p 3 (own3 l sz zs) _ C10.out (by omega)).mono ?_
                rintro e w11 ⟨v11, PL, rfl, hoe, hb11⟩
                obtain ⟨lg, lp, rfl, hl1, hl2, hl3, hl4, hl5'⟩ := own_entries (q := q) (by omega) ZL.out hoe
                have L11 := Lib.hid hl2
                have LP11 := Lib.hid hl5'
                have C11 := Lib.hid (C10.out.below hb11)
                have B11 := Lib.hid (B10.out.trans (hb11.mono B10.out.size))
                have Z11 := hb11.size
                have hlpz := hl5'.size
                clear hoe hb11 hl2 hl5'
                go_wp2_with fail
                refine (cNotes F6 p 3 (own3 l sz zs) _ C11.out (by omega)).mono ?_
                rw [own_notes]
                rintro e w12 ⟨NB, rfl, ⟨nc, hst⟩, hb12⟩
                obtain ⟨ng, D0, c0, np, c2, rfl, hn1, hn2, hn3, hn4, hn5', hn6, hn7⟩ := own_noted (q := q) (by omega) ZL.out HLN.out hst
                have hngs : ng < w12.heap.size := by obtain ⟨xs, h⟩ := hn2; exact h.size
                have N12 := Lib.hid hn2
                have D12 := Lib.hid hn4
                have NP12 := Lib.hid hn7
                have C12 := Lib.hid (C11.out.below hb12)
                have B12' := Lib.hid (B11.out.trans (hb12.mono B11.out.size))
                have Z12 := hb12.size
                have hnpz := hn7.size
                have L12 := Lib.hid (L11.out.below' hb12)
                have LP12 := Lib.hid (LP11.out.of_eq (hb12.block _ LP11.out.size))
                have l4 : w12.cell? ⟨lg, 4, none⟩ = some (.slice (some ⟨lp, 0, none⟩) q q) := (hb12.cell (p := ⟨lg, 4, none⟩) L11.out.size).trans hl3
                clear hst hb12 hn2 hn4 hn7 hl3
                go_wp2_with fail
                refine (cEntry F6 p 3 (own3 l sz zs) [98] _ C12.out (by decide)).mono ?_
                rintro e w13 ⟨het, hb13⟩
                obtain ⟨ep, rfl, hep, hes⟩ := own_entry (q := q) (by omega) ZL.out het
                have EP13 := Lib.hid (show SomePl w13 ep q from ⟨zs, ZL.out, hes⟩)
                have hepz := hes.size
                have C13 := Lib.hid (C12.out.below hb13)
                have B13 := Lib.hid (B12'.out.trans (hb13.mono B12'.out.size))
                have Z13 := hb13.size
                have L13 := Lib.hid (L12.out.below' hb13)
                have N13 := Lib.hid (show ∃ xs, RowAt w13 ng 26 xs by obtain ⟨xs, h⟩ := N12.out; exact ⟨xs, h.below' hb13⟩)
                have LP13 := Lib.hid (LP12.out.of_eq (hb13.block _ LP12.out.size))
                have NP13 := Lib.hid (NP12.out.of_eq (hb13.block _ NP12.out.size))
                have D13 := Lib.hid (show (D0 = none ∧ n = 0) ∨ ∃ g, D0 = some ⟨g, 0, none⟩ ∧ w11.heap.size ≤ g ∧ SomeBytes w13 g n from D12.out.imp id (fun ⟨g, h1, h2, h3⟩ => ⟨g, h1, h2, h3.of_eq (hb13.block _ h3.size)⟩))
                have l4 : w13.cell? ⟨lg, 4, none⟩ = some (.slice (some ⟨lp, 0, none⟩) q q) := (hb13.cell (p := ⟨lg, 4, none⟩) L12.out.size).trans l4
                have n4 : w13.cell? ⟨ng, 4, none⟩ = some (.slice D0 n c0) := (hb13.cell (p := ⟨ng, 4, none⟩) hngs).trans hn3
                have n7 : w13.cell? ⟨ng, 23, none⟩ = some (.slice (some ⟨np, 0, none⟩) q c2) := (hb13.cell (p := ⟨ng, 23, none⟩) hngs).trans hn6
                clear het hb13 hn3 hn6 hes
                go_upto_region 26 with fail
                obtain ⟨w14, hw14⟩ : ∃ w14, w14 = w13.alloc (.cells #[encStr [98], .int .i64 2, .int .i64 (sz : Int), encStr [], .slice (some ⟨ep, 0, none⟩) q q] 46) := ⟨_, rfl⟩
                change Code.wp _ _ _ _ (w13.alloc (.cells #[encStr [98], .int .i64 2, .int .i64 (sz : Int), encStr [], .slice (some ⟨ep, 0, none⟩) q q] 46))
                rw [← hw14]
                have hb14 : Below w13.heap.size w13 w14 := by rw [hw14]; exact (Below.refl _ _).alloc (Nat.le_refl _) _
                have E14 := Lib.hid (show Blk w14 w13.heap.size 46 #[encStr [98], .int .i64 2, .int .i64 (sz : Int), encStr [], .slice (some ⟨ep, 0, none⟩) q q] by rw [hw14]; exact Blk.made w13 _ _)
                have Z14 : w14.heap.size = w13.heap.size + 1 := by rw [hw14]; exact World.size_alloc _ _
                have C14 := Lib.hid (C13.out.below hb14)
                have B14 := Lib.hid (B13.out.trans (hb14.mono B13.out.size))
                have L14 := Lib.hid (L13.out.below' hb14)
                have N14 := Lib.hid (show ∃ xs, RowAt w14 ng 26 xs by obtain ⟨xs, h⟩ := N13.out; exact ⟨xs, h.below' hb14⟩)
                have LP14 := Lib.hid (LP13.out.of_eq (hb14.block _ LP13.out.size))
                have NP14 := Lib.hid (NP13.out.of_eq (hb14.block _ NP13.out.size))
                have EP14 := Lib.hid (EP13.out.of_eq (hb14.block _ EP13.out.size))
                have D14 := Lib.hid (show (D0 = none ∧ n = 0) ∨ ∃ g, D0 = some ⟨g, 0, none⟩ ∧ w11.heap.size ≤ g ∧ SomeBytes w14 g n from D13.out.imp id (fun ⟨g, h1, h2, h3⟩ => ⟨g, h1, h2, h3.of_eq (hb14.block _ h3.size)⟩))
                have l4 : w14.cell? ⟨lg, 4, none⟩ = some (.slice (some ⟨lp, 0, none⟩) q q) := (hb14.cell (p := ⟨lg, 4, none⟩) L13.out.size).trans l4
                have n4 : w14.cell? ⟨ng, 4, none⟩ = some (.slice D0 n c0) := (hb14.cell (p := ⟨ng, 4, none⟩) (show ng < w13.heap.size by omega)).trans n4
                have n7 : w14.cell? ⟨ng, 23, none⟩ = some (.slice (some ⟨np, 0, none⟩) q c2) := (hb14.cell (p := ⟨ng, 23, none⟩) (show ng < w13.heap.size by omega)).trans n7
                have e4 : w14.cell? ⟨w13.heap.size, 4, none⟩ = some (.slice (some ⟨ep, 0, none⟩) q q) := E14.out.cell 4
                have hnn : ((n : Int) != (n : Int)) = false := by simp
                have hqq : ((q : Int) != (q : Int)) = false := by simp
                clear hw14 hb14 L12 L11 LP11 LP12 LP13 N12 N13 NP12 NP13 D12 D13 EP13 L13 C13 C12 C11 B11 B12' B13
                go_upto_region 28 with fail
                have HND := Lib.hid (show ∀ y t' xs, t' ≠ 5 → RowAt w14 y t' xs → D0 ≠ some ⟨y, 0, none⟩ from fun y t' xs ht hr e => by
                  rcases D14.out with ⟨h, _⟩ | ⟨g, h, _, lz, _, h2⟩
                  · rw [h] at e; cases e
                  · rw [h] at e
                    cases e
                    exact ht (RowAt.ty hr h2))
                have HN1 := Lib.hid (show D0 ≠ some ⟨ng, 0, none⟩ by obtain ⟨xs, h⟩ := N14.out; exact HND.out _ _ _ (by decide) h)
                have HN2 := Lib.hid (show D0 ≠ some ⟨lg, 0, none⟩ from HND.out _ _ _ (by decide) L14.out)
                have HN3 := Lib.hid (show D0 ≠ some ⟨lp, 0, none⟩ by obtain ⟨xs, _, h⟩ := LP14.out; exact HND.out _ _ _ (by decide) h)
                have HN4 := Lib.hid (show D0 ≠ some ⟨np, 0, none⟩ by obtain ⟨xs, _, h⟩ := NP14.out; exact HND.out _ _ _ (by decide) h)
                have HN5 := Lib.hid (show D0 ≠ some ⟨ep, 0, none⟩ by obtain ⟨xs, _, h⟩ := EP14.out; exact HND.out _ _ _ (by decide) h)
                have HN6 := Lib.hid (show D0 ≠ some ⟨w13.heap.size, 0, none⟩ from fun e => by
                  rcases D14.out with ⟨h, _⟩ | ⟨g, h, _, lz, _, h2⟩
                  · rw [h] at e; cases e
                  · rw [h] at e
                    cases e
                    exact RowAt.ne h2 E14.out (by decide) rfl)
                have HN7 := Lib.hid (show ∀ y, y < w10.heap.size → D0 ≠ some ⟨y, 0, none⟩ from fun y hy e => by
                  rcases D14.out with ⟨h, _⟩ | ⟨g, h, hg, _⟩
                  · rw [h] at e; cases e
                  · rw [h] at e
                    cases e
                    omega)
                have hlg3 : lg ≠ lp := by obtain ⟨xs, _, h⟩ := LP14.out; rintro rfl; exact absurd (RowAt.ty L14.out h) (by decide)
                have hlg4 : lg ≠ np := by obtain ⟨xs, _, h⟩ := NP14.out; rintro rfl; exact absurd (RowAt.ty L14.out h) (by decide)
                have hlg5 : lg ≠ ep := by obtain ⟨xs, _, h⟩ := EP14.out; rintro rfl; exact absurd (RowAt.ty L14.out h) (by decide)
                have hng3 : ng ≠ lp := by obtain ⟨xs, _, h⟩ := LP14.out; obtain ⟨ys, h'⟩ := N14.out; rintro rfl; exact absurd (RowAt.ty h' h) (by decide)
                have hng4 : ng ≠ np := by obtain ⟨xs, _, h⟩ := NP14.out; obtain ⟨ys, h'⟩ := N14.out; rintro rfl; exact absurd (RowAt.ty h' h) (by decide)
                have hng5 : ng ≠ ep := by obtain ⟨xs, _, h⟩ := EP14.out; obtain ⟨ys, h'⟩ := N14.out; rintro rfl; exact absurd (RowAt.ty h' h) (by decide)
                have hln : lp ≠ np := by omega
                have hle : lp ≠ ep := by omega
                have hne : np ≠ ep := by omega
                have heb3 : w13.heap.size ≠ lp := by omega
                have heb4 : w13.heap.size ≠ np := by omega
                have heb5 : w13.heap.size ≠ ep := by omega
                clear HND hnn hqq
                go_wp2_with fail
                go_loopw [19] (fun i wx => ∃ k : Nat, k ≤ n ∧ i = .int .i64 k ∧ ((D0 = none ∧ n = 0) ∨ ∃ g, D0 = some ⟨g, 0, none⟩ ∧ w11.heap.size ≤ g ∧ SomeBytes wx g n) ∧ (∀ y, D0 ≠ some ⟨y, 0, none⟩ → wx.heap[y]? = w14.heap[y]?) ∧ Below w.heap.size w wx ∧ w14.heap.size ≤ wx.heap.size) (fun i _ => n - (intOf i).toNat)
                case atStart => exact ⟨0, Nat.zero_le _, rfl, D14.out, fun _ _ => rfl, B14.out, Nat.le_refl _⟩
                case round =>
                  obtain ⟨k4, hk4, rfl, hx, hkp, hbl, hzx4⟩ := hrel
                  obtain ⟨wr5, rfl⟩ : ∃ wo : World, wo = wr := ⟨_, rfl⟩
                  have XX := Lib.hid hx
                  have KP := Lib.hid hkp
                  have BB := Lib.hid hbl
                  have hz10 := B10.out.size
                  clear hx hkp hbl
                  have n4' : wr5.cell? ⟨ng, 4, none⟩ = some (.slice D0 n c0) := (World.cell?_of_block (a := ⟨ng, 4, none⟩) (KP.out ng HN1.out)).trans n4
                  by_cases hlt4 : k4 < n
                  · have d5 : decide (k4 < n) = true := by simpa using hlt4
                    obtain ⟨g, rfl, hg, hsb⟩ := XX.out.resolve_left (by omega)
                    obtain ⟨z, hz⟩ := hsb.cell hlt4
                    have hfz : wr5.frozen? ⟨g, k4, none⟩ = false := hsb.free k4
                    have hgs : g < wr5.heap.size := hsb.size
                    obtain ⟨x0, x1⟩ := xor_range (z.toNat) t
                    have SB := Lib.hid hsb
                    clear hsb
                    go_wp2_with fail
                    go_roundw
                    case rel => exact ⟨k4 + 1, hlt4, by go_num, .inr ⟨g, rfl, hg, SB.out.store x0 x1⟩, fun y hy => (Below.heap_setCell _ _ _ _ (show y ≠ g from fun e => hy (by rw [e]))).trans (KP.out y hy), BB.out.setCell (show w.heap.size ≤ g by omega) _, by simpa using hzx4⟩
                    case measure => simp [intOf]; omega
                  · have d5 : decide (k4 < n) = false := by simpa using hlt4
                    obtain ⟨w15, rfl⟩ : ∃ x : World, x = wr5 := ⟨_, rfl⟩
                    have C15 := Lib.hid ((CatAt.owning ..).keep _ _ _ C14.out hzx4 (fun k hk hF => KP.out k (HN7.out k (FF10.out k hF))))
                    have LP15 := Lib.hid (LP14.out.of_eq (KP.out lp HN3.out))
                    have NP15 := Lib.hid (NP14.out.of_eq (KP.out np HN4.out))
                    have EP15 := Lib.hid (EP14.out.of_eq (KP.out ep HN5.out))
                    have l4' : w15.cell? ⟨lg, 4, none⟩ = some (.slice (some ⟨lp, 0, none⟩) q q) := (World.cell?_of_block (a := ⟨lg, 4, none⟩) (KP.out lg HN2.out)).trans l4
                    have n7' : w15.cell? ⟨ng, 23, none⟩ = some (.slice (some ⟨np, 0, none⟩) q c2) := (World.cell?_of_block (a := ⟨ng, 23, none⟩) (KP.out ng HN1.out)).trans n7
                    have e4' : w15.cell? ⟨w13.heap.size, 4, none⟩ = some (.slice (some ⟨ep, 0, none⟩) q q) := (World.cell?_of_block (a := ⟨w13.heap.size, 4, none⟩) (KP.out _ HN6.out)).trans e4
                    have E15 := Lib.hid (E14.out.of_eq (KP.out _ HN6.out))
                    have B15 := Lib.hid BB.out
                    clear KP BB XX HN1 HN2 HN3 HN4 HN5 HN6 HN7 n4 D14 N14 L14 LP14 NP14 EP14 E14 C14 B14 l4 n7 e4
                    go_wp2_with fail
                    go_loopw [20] (fun i wx => ∃ k : Nat, k ≤ q ∧ i = .int .i64 k ∧ SomePl wx lp q ∧ SomePl wx np q ∧ SomePl wx ep q ∧ (∀ y, y ≠ lp → y ≠ np → y ≠ ep → wx.heap[y]? = w15.heap[y]?) ∧ Below w.heap.size w wx ∧ w15.heap.size ≤ wx.heap.size) (fun i _ => q - (intOf i).toNat)
                    case atStart => exact ⟨0, Nat.zero_le _, rfl, LP15.out, NP15.out, EP15.out, fun _ _ _ _ => rfl, B15.out, Nat.le_refl _⟩
                    case round =>
                      obtain ⟨k5, hk5, rfl, hx1, hx2, hx3, hkp, hbl, hzx5⟩ := hrel
                      obtain ⟨wr6, rfl⟩ : ∃ wo : World, wo = wr := ⟨_, rfl⟩
                      have X1 := Lib.hid hx1
                      have X2 := Lib.hid hx2
                      have X3' := Lib.hid hx3
                      have KP := Lib.hid hkp
                      have BB := Lib.hid hbl
                      clear hx1 hx2 hx3 hkp hbl
                      by_cases hlt5 : k5 < q
                      · have d6 : decide (k5 < q) = true := by simpa using hlt5
                        have s1 : wr6.cell? ⟨lg, 4, none⟩ = some (.slice (some ⟨lp, 0, none⟩) q q) := (World.cell?_of_block (a := ⟨lg, 4, none⟩) (KP.out lg hlg3 hlg4 hlg5)).trans l4'
                        have s2 : wr6.cell? ⟨ng, 23, none⟩ = some (.slice (some ⟨np, 0, none⟩) q c2) := (World.cell?_of_block (a := ⟨ng, 23, none⟩) (KP.out ng hng3 hng4 hng5)).trans n7'
                        have s3 : wr6.cell? ⟨w13.heap.size, 4, none⟩ = some (.slice (some ⟨ep, 0, none⟩) q q) := (World.cell?_of_block (a := ⟨w13.heap.size, 4, none⟩) (KP.out _ heb3 heb4 heb5)).trans e4'
                        obtain ⟨z1, hz1''⟩ := X1.out.cell hlt5
                        obtain ⟨z2, hz2''⟩ := X2.out.cell hlt5
                        obtain ⟨z3, hz3''⟩ := X3'.out.cell hlt5
                        have f1 : wr6.frozen? ⟨lp, k5 * 2 + 1, none⟩ = false := X1.out.free _
                        have f2 : wr6.frozen? ⟨np, k5 * 2 + 1, none⟩ = false := X2.out.free _
                        have f3 : wr6.frozen? ⟨ep, k5 * 2 + 1, none⟩ = false := X3'.out.free _
                        go_upto_region 35 with fail
                        refine wp_region_held_drew (S := (fun w' => w'.cell? ⟨lg, 4, none⟩ = some (.slice (some ⟨lp, 0, none⟩) q q) ∧ w'.cell? ⟨ng, 23, none⟩ = some (.slice (some ⟨np, 0, none⟩) q c2) ∧ w'.cell? ⟨w13.heap.size, 4, none⟩ = some (.slice (some ⟨ep, 0, none⟩) q q))) (by kernel_rfl) ⟨s1, s2, s3⟩ (fun hHeld => ?_)
                        refine wpAnyH_take (i := 0) (v := ?vOwn10) (take_list rfl) (by kernel_rfl) (by kernel_rfl) (by kernel_rfl) (fun _ _ _ h => h) (Or.inl ⟨by rfl, ?hyOwn10⟩) (by assumption) ?restOwn10
                        case hyOwn10 => (intro w hSw; (try dsimp only at hSw); go_simp <;> with_reducible rfl)
                        try simp only [Act.put, List.setIfInBounds_toArray, List.set_cons_zero, List.set_cons_succ]
                        refine wpAnyH_take (i := 1) (v := ?vOwn11) (take_list rfl) (by kernel_rfl) (by kernel_rfl) (by kernel_rfl) (fun _ _ _ h => h) (Or.inl ⟨by rfl, ?hyOwn11⟩) (by assumption) ?restOwn11
                        case hyOwn11 => (intro w hSw; (try dsimp only at hSw); go_simp <;> with_reducible rfl)
                        try simp only [Act.put, List.setIfInBounds_toArray, List.set_cons_zero, List.set_cons_succ]
                        refine wpAnyH_take (i := 2) (v := ?vOwn12) (take_list rfl) (by kernel_rfl) (by kernel_rfl) (by kernel_rfl) (fun _ _ _ h => h) (Or.inl ⟨by rfl, ?hyOwn12⟩) (by assumption) ?restOwn12
                        case hyOwn12 => (intro w hSw; (try dsimp only at hSw); go_simp <;> with_reducible rfl)
                        try simp only [Act.put, List.setIfInBounds_toArray, List.set_cons_zero, List.set_cons_succ]
                        refine wpAnyH_take (i := 3) (v := ?vOwn13) (take_list rfl) (by kernel_rfl) (by kernel_rfl) (by kernel_rfl) (fun _ _ _ h => h) (Or.inl ⟨by rfl, ?hyOwn13⟩) (by assumption) ?restOwn13
                        case hyOwn13 => (intro w hSw; (try dsimp only at hSw); go_simp <;> with_reducible rfl)
                        try simp only [Act.put, List.setIfInBounds_toArray, List.set_cons_zero, List.set_cons_succ]
                        refine wpAnyH_take (i := 4) (v := ?vOwn14) (take_list rfl) (by kernel_rfl) (by kernel_rfl) (by kernel_rfl) (fun _ _ _ h => h) (Or.inl ⟨by rfl, ?hyOwn14⟩) (by assumption) ?restOwn14
                        case hyOwn14 => (intro w hSw; (try dsimp only at hSw); go_simp <;> with_reducible rfl)
                        try simp only [Act.put, List.setIfInBounds_toArray, List.set_cons_zero, List.set_cons_succ]
                        refine wpAnyH_take (i := 5) (v := ?vOwn15) (take_list rfl) (by kernel_rfl) (by kernel_rfl) (by kernel_rfl) (fun _ _ _ h => h) (Or.inl ⟨by rfl, ?hyOwn15⟩) (by assumption) ?restOwn15
                        case hyOwn15 => (intro w hSw; (try dsimp only at hSw); go_simp <;> with_reducible rfl)
                        try simp only [Act.put, List.setIfInBounds_toArray, List.set_cons_zero, List.set_cons_succ]
                        refine wpAnyH_take (i := 6) (v := ?vOwn16) (take_list rfl) (by kernel_rfl) (by kernel_rfl) (by kernel_rfl) (fun _ _ _ h => h) (Or.inl ⟨by rfl, ?hyOwn16⟩) (by assumption) ?restOwn16
                        case hyOwn16 => (intro w hSw; (try dsimp only at hSw); go_simp <;> with_reducible rfl)
                        try simp only [Act.put, List.setIfInBounds_toArray, List.set_cons_zero, List.set_cons_succ]
                        refine wpAnyH_take (i := 7) (v := ?vOwn17) (take_list rfl) (by kernel_rfl) (by kernel_rfl) (by kernel_rfl) (fun _ _ _ h => h) (Or.inl ⟨by rfl, ?hyOwn17⟩) (by assumption) ?restOwn17
                        case hyOwn17 => (intro w hSw; (try dsimp only at hSw); go_simp <;> with_reducible rfl)
                        try simp only [Act.put, List.setIfInBounds_toArray, List.set_cons_zero, List.set_cons_succ]
                        refine wpAnyH_take (i := 8) (v := ?vOwn18) (take_list rfl) (by kernel_rfl) (by kernel_rfl) (by kernel_rfl) (fun _ _ _ h => h) (Or.inl ⟨by rfl, ?hyOwn18⟩) (by assumption) ?restOwn18
                        case hyOwn18 => (intro w hSw; (try dsimp only at hSw); go_simp <;> with_reducible rfl)
                        try simp only [Act.put, List.setIfInBounds_toArray, List.set_cons_zero, List.set_cons_succ]
                        refine wpAnyH_take (i := 9) (v := ?vOwn19) (take_list rfl) (by kernel_rfl) (by kernel_rfl) (by kernel_rfl) (fun _ _ _ h => h) (Or.inl ⟨by rfl, ?hyOwn19⟩) (by assumption) ?restOwn19
                        case hyOwn19 => (intro w hSw; (try dsimp only at hSw); go_simp <;> with_reducible rfl)
                        try simp only [Act.put, List.setIfInBounds_toArray, List.set_cons_zero, List.set_cons_succ]
                        refine wpAnyH_take (i := 10) (v := ?vOwn110) (take_list rfl) (by kernel_rfl) (by kernel_rfl) (by kernel_rfl) (fun _ _ _ h => h) (Or.inl ⟨by rfl, ?hyOwn110⟩) (by assumption) ?restOwn110
                        case hyOwn110 => (intro w hSw; (try dsimp only at hSw); go_simp <;> with_reducible rfl)
                        try simp only [Act.put, List.setIfInBounds_toArray, List.set_cons_zero, List.set_cons_succ]
                        refine wpAnyH_take (i := 11) (v := ?vOwn111) (take_list rfl) (by kernel_rfl) (by kernel_rfl) (by kernel_rfl) (fun _ _ _ h => h) (Or.inl ⟨by rfl, ?hyOwn111⟩) (by assumption) ?restOwn111
                        case hyOwn111 => (intro w hSw; (try dsimp only at hSw); go_simp <;> with_reducible rfl)
                        try simp only [Act.put, List.setIfInBounds_toArray, List.set_cons_zero, List.set_cons_succ]
                        refine wpAnyH_take (i := 12) (v := ?vOwn112) (take_list rfl) (by kernel_rfl) (by kernel_rfl) (by kernel_rfl) (fun _ _ _ h => h) (Or.inl ⟨by rfl, ?hyOwn112⟩) (by assumption) ?restOwn112
                        case hyOwn112 => (intro w hSw; (try dsimp only at hSw); go_simp <;> with_reducible rfl)
                        try simp only [Act.put, List.setIfInBounds_toArray, List.set_cons_zero, List.set_cons_succ]
                        refine wpAnyH_take (i := 13) (v := ?vOwn113) (take_list rfl) (by kernel_rfl) (by kernel_rfl) (by kernel_rfl) (fun _ _ _ h => h) (Or.inl ⟨by rfl, ?hyOwn113⟩) (by assumption) ?restOwn113
                        case hyOwn113 => (intro w hSw; (try dsimp only at hSw); go_simp <;> with_reducible rfl)
                        try simp only [Act.put, List.setIfInBounds_toArray, List.set_cons_zero, List.set_cons_succ]
                        refine wpAnyH_take (i := 14) (v := ?vOwn114) (take_list rfl) (by kernel_rfl) (by kernel_rfl) (by kernel_rfl) (fun _ _ _ h => h) (Or.inl ⟨by rfl, ?hyOwn114⟩) (by assumption) ?restOwn114
                        case hyOwn114 => (intro w hSw; (try dsimp only at hSw); go_simp <;> with_reducible rfl)
                        try simp only [Act.put, List.setIfInBounds_toArray, List.set_cons_zero, List.set_cons_succ]
                        refine wpAnyH_ready (rs := [15]) (by kernel_rfl) (by simp) ?_
                        refine AllReadyH.cons rfl (fun K hK => ?_) AllReadyH.nil
                        go_simp
                        clear hHeld
                        refine hK.out _ _ ⟨cso s1 hlg3, cso s2 hng3, cso s3 heb3⟩ (fun hHeld => ?_)
                        clear hK K
                        refine wpAnyH_take (i := 16) (v := ?vOwn116) (take_list rfl) (by kernel_rfl) (by kernel_rfl) (by kernel_rfl) (fun _ _ _ h => h) (Or.inl ⟨by rfl, ?hyOwn116⟩) (by assumption) ?restOwn116
                        case hyOwn116 => (intro w hSw; (try dsimp only at hSw); go_simp <;> with_reducible rfl)
                        try simp only [Act.put, List.setIfInBounds_toArray, List.set_cons_zero, List.set_cons_succ]
                        refine wpAnyH_take (i := 17) (v := ?vOwn117) (take_list rfl) (by kernel_rfl) (by kernel_rfl) (by kernel_rfl) (fun _ _ _ h => h) (Or.inl ⟨by rfl, ?hyOwn117⟩) (by assumption) ?restOwn117
                        case hyOwn117 => (intro w hSw; (try dsimp only at hSw); go_simp <;> with_reducible rfl)
                        try simp only [Act.put, List.setIfInBounds_toArray, List.set_cons_zero, List.set_cons_succ]
                        refine wpAnyH_ready (rs := [18]) (by kernel_rfl) (by simp) ?_
                        refine AllReadyH.cons rfl (fun K hK => ?_) AllReadyH.nil
                        go_simp
                        clear hHeld
                        refine hK.out _ _ ⟨cso (cso s1 hlg3) hlg5, cso (cso s2 hng3) hng5, cso (cso s3 heb3) heb5⟩ (fun hHeld => ?_)
                        clear hK K
                        refine wpAnyH_take (i := 19) (v := ?vOwn119) (take_list rfl) (by kernel_rfl) (by kernel_rfl) (by kernel_rfl) (fun _ _ _ h => h) (Or.inl ⟨by rfl, ?hyOwn119⟩) (by assumption) ?restOwn119
                        case hyOwn119 => (intro w hSw; (try dsimp only at hSw); go_simp <;> with_reducible rfl)
                        try simp only [Act.put, List.setIfInBounds_toArray, List.set_cons_zero, List.set_cons_succ]
                        refine wpAnyH_take (i := 20) (v := ?vOwn120) (take_list rfl) (by kernel_rfl) (by kernel_rfl) (by kernel_rfl) (fun _ _ _ h => h) (Or.inl ⟨by rfl, ?hyOwn120⟩) (by assumption) ?restOwn120
                        case hyOwn120 => (intro w hSw; (try dsimp only at hSw); go_simp <;> with_reducible rfl)
                        try simp only [Act.put, List.setIfInBounds_toArray, List.set_cons_zero, List.set_cons_succ]
                        refine wpAnyH_ready (rs := [21]) (by kernel_rfl) (by simp) ?_
                        refine AllReadyH.cons rfl (fun K hK => ?_) AllReadyH.nil
                        go_simp
                        clear hHeld
                        refine hK.out _ _ ⟨cso (cso (cso s1 hlg3) hlg5) hlg4, cso (cso (cso s2 hng3) hng5) hng4, cso (cso (cso s3 heb3) heb5) heb4⟩ (fun hHeld => ?_)
                        clear hK K
                        refine wpAnyH_done (by kernel_rfl) ?_ _
                        go_wp2_with fail
                        go_roundw
                        case rel => exact ⟨k5 + 1, hlt5, by go_num, ((X1.out.store hlt5 8).other hle _).other hln _, ((X2.out.other hln.symm _).other hne _).store hlt5 10, ((X3'.out.other hle.symm _).store hlt5 9).other hne.symm _, fun y h1 h2 h3 => ((Below.heap_setCell _ _ _ _ h2).trans ((Below.heap_setCell _ _ _ _ h3).trans (Below.heap_setCell _ _ _ _ h1))).trans (KP.out y h1 h2 h3), below_dr (((BB.out.setCell (p := ⟨lp, _, none⟩) (show w.heap.size ≤ lp by omega) _).setCell (p := ⟨ep, _, none⟩) (show w.heap.size ≤ ep by omega) _).setCell (p := ⟨np, _, none⟩) (show w.heap.size ≤ np by omega) _), by simpa using hzx5⟩
                        case measure => simp [intOf]; omega
                      · have d6 : decide (k5 < q) = false := by simpa using hlt5
                        obtain ⟨w16, rfl⟩ : ∃ x : World, x = wr6 := ⟨_, rfl⟩
                        have C16 := Lib.hid ((CatAt.owning ..).keep _ _ _ C15.out hzx5 (fun k hk hF => KP.out k (by have := FF10.out k hF; omega) (by have := FF10.out k hF; omega) (by have := FF10.out k hF; omega)))
                        have E16 := Lib.hid (E15.out.of_eq (KP.out _ heb3 heb4 heb5))
                        have B16 := Lib.hid BB.out
                        have hz16 := B16.out.size
                        clear KP BB X1 X2 X3' C15 E15 l4' n7' e4' n4' LP15 NP15 EP15 B15
                        go_wp2_with fail
                        refine (cData F6 p 3 (own3 l sz zs) [97] _ C16.out).mono ?_
                        rintro e w17 ⟨hdt, hb17⟩
                        obtain ⟨v17, rfl, ho17⟩ := own_data hdt
                        obtain ⟨Y2, rfl, hy17, hyg⟩ := ho17.bytes
                        rw [HLN.out] at hy17 hyg ⊢
                        have HYG := Lib.hid (show n = 0 ∨ ∃ g, Y2 = some ⟨g, 0, none⟩ ∧ w16.heap.size ≤ g from hyg.imp id (fun ⟨g, h1, h2, _⟩ => ⟨g, h1, h2⟩))
                        have hebz16 : w13.heap.size < w16.heap.size := E16.out.size
                        have Y17 := Lib.hid hy17
                        have B17 := Lib.hid (B16.out.trans (hb17.mono hz16))
                        have C17 := Lib.hid (C16.out.below hb17)
                        have E17 := Lib.hid (E16.out.below hb17 E16.out.size)
                        have Z17 := B17.out.size
                        clear hdt ho17 hy17 hb17 hyg
                        go_wp2_with fail
                        refine (cEntry F6 p 3 (own3 l sz zs) [98] _ C17.out (by decide)).mono ?_
                        rintro e w18 ⟨het, hb18⟩
                        obtain ⟨ep2, rfl, hep2, hes2⟩ := own_entry (q := q) (by omega) ZL.out het
                        have P18 := Lib.hid hes2
                        have hep2z := hes2.size
                        have B18 := Lib.hid (B17.out.trans (hb18.mono Z17))
                        have C18 := Lib.hid (C17.out.below hb18)
                        have E18 := Lib.hid (E17.out.below hb18 E17.out.size)
                        have Y18 := Lib.hid (Y17.out.below hb18)
                        have hebz : w13.heap.size < w18.heap.size := E18.out.size
                        have h17 : w13.heap.size < w17.heap.size := E17.out.size
                        clear het hb18 hes2
                        have g0 : w18.cell? ⟨w13.heap.size, 0, none⟩ = some (encStr [98]) := E18.out.cell 0
                        have fr0 : w18.frozen? ⟨w13.heap.size, 0, none⟩ = false := E18.out.free 0
                        have g1 : w18.cell? ⟨w13.heap.size, 1, none⟩ = some (.int .i64 2) := E18.out.cell 1
                        have fr1 : w18.frozen? ⟨w13.heap.size, 1, none⟩ = false := E18.out.free 1
                        have g2 : w18.cell? ⟨w13.heap.size, 2, none⟩ = some (.int .i64 (sz : Int)) := E18.out.cell 2
                        have fr2 : w18.frozen? ⟨w13.heap.size, 2, none⟩ = false := E18.out.free 2
                        have g3 : w18.cell? ⟨w13.heap.size, 3, none⟩ = some (encStr []) := E18.out.cell 3
                        have fr3 : w18.frozen? ⟨w13.heap.size, 3, none⟩ = false := E18.out.free 3
                        have g4 : w18.cell? ⟨w13.heap.size, 4, none⟩ = some (.slice (some ⟨ep, 0, none⟩) q q) := E18.out.cell 4
                        have fr4 : w18.frozen? ⟨w13.heap.size, 4, none⟩ = false := E18.out.free 4
                        go_upto_region 38 with fail
                        obtain ⟨w19, hw19⟩ : ∃ x, x = (((((w18.setCell ⟨w13.heap.size, 0, none⟩ (encStr [98])).setCell ⟨w13.heap.size, 1, none⟩ (.int .i64 2)).setCell ⟨w13.heap.size, 2, none⟩ (.int .i64 (sz : Int))).setCell ⟨w13.heap.size, 3, none⟩ (encStr [])).setCell ⟨w13.heap.size, 4, none⟩ (.slice (some ⟨ep2, 0, none⟩) q q)) := ⟨_, rfl⟩
                        change Code.wp _ _ _ _ (((((w18.setCell ⟨w13.heap.size, 0, none⟩ (encStr [98])).setCell ⟨w13.heap.size, 1, none⟩ (.int .i64 2)).setCell ⟨w13.heap.size, 2, none⟩ (.int .i64 (sz : Int))).setCell ⟨w13.heap.size, 3, none⟩ (encStr [])).setCell ⟨w13.heap.size, 4, none⟩ (.slice (some ⟨ep2, 0, none⟩) q q))
                        rw [← hw19]
                        have K19 := Lib.hid (show ∀ y, y ≠ w13.heap.size → w19.heap[y]? = w18.heap[y]? from fun y hy => by rw [hw19]; exact (((((Below.heap_setCell _ _ _ _ hy).trans (Below.heap_setCell _ _ _ _ hy)).trans (Below.heap_setCell _ _ _ _ hy)).trans (Below.heap_setCell _ _ _ _ hy)).trans (Below.heap_setCell _ _ _ _ hy)))
                        have B19 := Lib.hid (show Below w.heap.size w w19 by rw [hw19]; exact (((((B18.out.setCell (p := ⟨w13.heap.size, 0, none⟩) (show w.heap.size ≤ w13.heap.size by omega) _).setCell (p := ⟨w13.heap.size, 1, none⟩) (show w.heap.size ≤ w13.heap.size by omega) _).setCell (p := ⟨w13.heap.size, 2, none⟩) (show w.heap.size ≤ w13.heap.size by omega) _).setCell (p := ⟨w13.heap.size, 3, none⟩) (show w.heap.size ≤ w13.heap.size by omega) _).setCell (p := ⟨w13.heap.size, 4, none⟩) (show w.heap.size ≤ w13.heap.size by omega) _))
                        have hz19 : w19.heap.size = w18.heap.size := by rw [hw19]; simp [World.setCell]
                        have e19 : w19.cell? ⟨w13.heap.size, 4, none⟩ = some (.slice (some ⟨ep2, 0, none⟩) q q) := by
                          rw [hw19]
                          exact ((((((E18.out.store 0 _).store 1 _).store 2 _).store 3 _).store 4 _)).cell 4
                        have hpe : ep2 ≠ w13.heap.size := RowAt.ne P18.out E18.out (by decide)
                        have P19 := Lib.hid (P18.out.of_eq (K19.out ep2 hpe))
                        have Y19 := Lib.hid (show BytesIn w19 Y2 n l by
                          rcases HYG.out with h0 | ⟨g, rfl, hg⟩
                          · have h1 := Y18.out.1
                            rw [h0] at h1 ⊢
                            rw [List.eq_nil_of_length_eq_zero h1]
                            exact BytesIn.empty _ _
                          · exact Y18.out.keep (by omega) (fun b off e _ => by cases e; exact K19.out g (by omega)))
                        have hz19w := B19.out.size
                        clear hw19 K19 P18 E18 E17 E16 Y18 Y17 C18 C17 C16 B18 B17 B16 g0 g1 g2 g3 g4 fr0 fr1 fr2 fr3 fr4
                        go_wp2_with fail
                        go_loopw [21] (fun i wx => ∃ k : Nat, k ≤ q ∧ i = .int .i64 k ∧ wx = w19) (fun i _ => q - (intOf i).toNat)
                        case atStart => exact ⟨0, Nat.zero_le _, rfl, rfl⟩
                        case round =>
                          obtain ⟨k6, hk6, rfl, rfl⟩ := hrel
                          by_cases hlt6 : k6 < q
                          · have d7 : decide (k6 < q) = true := by simpa using hlt6
                            have hzk : zs[k6]? = some (0, 0) := by rw [ZS.out]; exact zero_places hlt6
                            have p0 : wr.cell? ⟨ep2, k6 * 2, none⟩ = some (.int .i64 0) := P19.out.cell (placeVals_get hzk).1
                            have p1 : wr.cell? ⟨ep2, k6 * 2 + 1, none⟩ = some (.int .i64 0) := P19.out.cell (placeVals_get hzk).2
                            clear hzk
                            go_wp2_with fail
                            go_roundw
                            case rel => exact ⟨k6 + 1, hlt6, by go_num, by trivial⟩
                            case measure => simp [intOf]; omega
                          · have d7 : decide (k6 < q) = false := by simpa using hlt6
                            go_wp2_with fail
                            refine (awake13 _).mono ?_
                            rintro e w20 ⟨rfl, hb20⟩
                            have B20 := Lib.hid (B19.out.trans (hb20.mono hz19w))
                            have hcv1 : (convert 23 9 (.slice Y2 n n)).run Try.prog w20 = .ok (encStr l) w20 := arg_string (Y19.out.below hb20)
                            have hcv2 : (convert 23 9 (.slice A n c)).run Try.prog w20 = .ok (encStr l) w20 := arg_string (H.out.below B20.out)
                            clear hb20
                            go_wp2_with fail
                            go_ret
                            exact ⟨rfl, B20.out⟩
end
end Go.Proofs.Ytmkccblcmiflfaa
