/- The law ModelText returns true on values. No condition beyond those that each theorem states. -/
import Derived.Test.YtgkgieemdjbhpaaMT3
namespace Go.Proofs.Ytgkgieemdjbhpaa
open Go.RowKit Go.Maps

section
variable {lo p b p2 b2 q p3 b3 : Nat} {w w' : World} {S T U U' : MV} {l l' : List UInt8}
theorem MAt.map_is (h : MAt lo w p b S) : ∃ es clock, w.heap[b]? = some (.map es clock) := by
  obtain ⟨_, _, D, ⟨es, clock, hb, _⟩, _⟩ := h
  exact ⟨es, clock, hb⟩
theorem blk_no_map {k : Nat} {t : TypeId} {cs : Array Value} (h : Blk w k t cs) (hm : ∃ es clock, w.heap[b]? = some (.map es clock)) : k ≠ b := fun e => by
  subst e
  obtain ⟨es, clock, hb⟩ := hm
  unfold Blk at h
  rw [hb] at h
  cases h
theorem MAt.chg {F : Nat → Prop} (h : MAt lo w p b S) (hc : Chg F w w') (hp : ¬ F p) (hb : ¬ F b) (hk : ∀ k cs, Blk w k 5 cs → ¬ F k) : MAt lo w' p b S := by
  obtain ⟨h1, h2, D, h3, h4⟩ := h
  refine ⟨h1.of_eq (hc.block p h1.size hp), h2, D, ?_, h4.keep fun k _ a2 ⟨cs, hcs⟩ => hc.block k a2 (hk k cs hcs)⟩
  obtain ⟨es, clock, hbb, F, hs, hD⟩ := h3
  exact ⟨es, clock, (hc.block b (Array.getElem?_eq_some_iff.1 hbb).1 hb).trans hbb, F, hs, hD⟩
theorem MAt.lower {lo' : Nat} (h : MAt lo w p b S) (hl : lo' ≤ lo) : MAt lo' w p b S := by
  obtain ⟨h1, h2, D, h3, h4⟩ := h
  exact ⟨h1, ⟨by omega, by omega⟩, D, h3, h4.has, fun k hk => by
    obtain ⟨A, n, c, a, b⟩ := h4.val k hk
    exact ⟨A, n, c, a, b.mono hl⟩, h4.no, h4.nd, h4.wf⟩
/-- Two models, a reader and a third model. -/
structure Txt (lo : Nat) (w : World) (p b p2 b2 q p3 b3 : Nat) (S T U : MV) (l : List UInt8) : Prop where
  m : MAt lo w p b S
  n : MAt lo w p2 b2 T
  r : RdAt w q l false
  g : MAt lo w p3 b3 U
  ne : b ≠ b3 ∧ b2 ≠ b3
theorem RdAt.chg {F : Nat → Prop} {bad : Bool} (h : RdAt w q l bad) (hc : Chg F w w') (hq : ¬ F q) (hk : ∀ k cs, Blk w k 5 cs → ¬ F k) : RdAt w' q l bad := by
  obtain ⟨A, m, d, h1, hf, hA, hb⟩ := h.ex
  refine ⟨A, m, d, h1.of_eq (hc.block q h1.size hq), hf, ?_, hb.keep hc.size fun b off e hbz => ?_⟩
  · rcases hA with h | ⟨b, off, cs, rfl, hbb⟩
    · exact .inl h
    · exact .inr ⟨b, off, cs, rfl, hbb.of_eq (hc.block b hbb.size (hk b cs hbb))⟩
  · rcases hA with h | ⟨b', off', cs, rfl, hbb⟩
    · rw [h] at e; cases e
    · cases e
      exact hc.block b hbz (hk b cs hbb)
theorem RdAt.below {bad : Bool} (h : RdAt w q l bad) (hb : Below w.heap.size w w') : RdAt w' q l bad := h.chg (Chg.of_below (fun _ => False) hb) (fun h => h) (fun _ _ _ h => h)
theorem RdAt.is_blk {bad : Bool} (h : RdAt w q l bad) : ∃ cs, Blk w q 70 cs := by
  obtain ⟨A, m, d, h1, _⟩ := h.ex
  exact ⟨_, h1⟩
theorem MAt.read {bad : Bool} (h : MAt lo w p b S) (hr : RdAt w q l bad) (hc : Chg (fun i => i = q) w w') : MAt lo w' p b S := by
  obtain ⟨cs, hq⟩ := hr.is_blk
  exact h.chg hc (fun e => blk_ne hq h.blk (by decide) e.symm) (fun e => blk_no_map hq h.map_is e.symm) (fun k cs' hk e => blk_ne hk hq (by decide) e)
theorem Txt.read (h : Txt lo w p b p2 b2 q p3 b3 S T U l) (hr : RdAt w' q l' false) (hc : Chg (fun i => i = q) w w') : Txt lo w' p b p2 b2 q p3 b3 S T U l' :=
  ⟨h.m.read h.r hc, h.n.read h.r hc, hr, h.g.read h.r hc, h.ne⟩
theorem Txt.below (h : Txt lo w p b p2 b2 q p3 b3 S T U l) (hb : Below w.heap.size w w') : Txt lo w' p b p2 b2 q p3 b3 S T U l :=
  ⟨h.m.below hb, h.n.below hb, h.r.below hb, h.g.below hb, h.ne⟩
theorem Txt.put (h : Txt lo w p b p2 b2 q p3 b3 S T U l) (hg : MAt lo w' p3 b3 U') (hw : w.grownBy w' (some b3)) : Txt lo w' p b p2 b2 q p3 b3 S T U' l := by
  have hc : Chg (fun i => i = b3) w w' := (Chg.refl _ w).grown hw fun g e => .inl (Option.some.inj e).symm
  have hk : ∀ k cs, Blk w k 5 cs → ¬ k = b3 := fun k cs hk e => blk_no_map hk h.g.map_is e
  have hm : ∀ {p b : Nat} {S : MV}, MAt lo w p b S → b ≠ b3 → MAt lo w' p b S := fun h1 hne => h1.chg hc (fun e => blk_no_map h1.blk h.g.map_is e) hne hk
  obtain ⟨cs, hq⟩ := h.r.is_blk
  exact ⟨hm h.m h.ne.1, hm h.n h.ne.2, h.r.chg hc (fun e => blk_no_map hq h.g.map_is e) hk, hg, h.ne⟩
end
theorem conv_form (w : World) (s : List UInt8) (hs : s.length ≤ maxLen) : ∃ W' k, (convert 9 29 (encStr s)).run Try.prog w = .ok (.slice (some ⟨w.heap.size, 0, none⟩) s.length k) W' ∧ BytesIn W' (some ⟨w.heap.size, 0, none⟩) s.length s ∧ Form (some ⟨w.heap.size, 0, none⟩) s.length k ∧ Below w.heap.size w W' := by
  have h := run_bytes_of_string (P := Try.prog) w 9 29 5 ⟨s.toArray⟩ Try.underlying9 Try.underlying29 Try.underlying5
  refine ⟨_, _, h, ⟨rfl, .inr ⟨_, 0, rfl, by simp, fun i u hu => ?_⟩⟩, ⟨grownCap_ge w s.length 0 _, grownCap_le_maxLen w s.length 0 _ hs, fun e => by cases e⟩, ?_⟩
  · have hi := (List.getElem?_eq_some_iff.1 hu).1
    rw [Nat.zero_add, cell_of_row _ w.heap.size i _ 5 _ (heap_alloc_new w.drew _)]
    have hsz : i < s.length := hi
    simp only [bytesRow]
    rw [Array.getElem?_append_left (by simpa using hsz)]
    have hu2 : s[i]? = some u := hu
    simp [hu2]
  · exact (show Below w.heap.size w w.drew from below_drew1).alloc (Nat.le_refl w.heap.size) _
theorem textT_len {S : MV} : ∀ {ks : List (List UInt8)}, (∀ k ∈ ks, k.length ≤ 16 ∧ (getM S k).length ≤ 512) → (textT S ks).length ≤ 600 * ks.length
  | [], _ => Nat.zero_le _
  | k :: ks, h => by
    have h1 := textT_len (fun k' hk' => h k' (List.mem_cons_of_mem _ hk'))
    have h2 := h k (List.mem_cons_self ..)
    have h3 := textW_len k
    have h4 := textW_len (getM S k)
    rw [textT_cons, List.length_append, List.length_append, List.length_cons]
    omega
set_option maxRecDepth 100000 in
set_option maxHeartbeats 20000000 in
theorem modelText_walk (A A2 : Option Addr) (n c n2 c2 : Nat) (f f2 : Nat → ActV) (w : World) (hA : ActsIn w A n f) (hn : n ≤ c) (hc : c ≤ maxLen) (hA2 : ActsIn w A2 n2 f2) (hn2 : n2 ≤ c2) (hc2 : c2 ≤ maxLen) :
    Calls Try.prog 7 #[.slice A n c, .slice A2 n2 c2] w fun e w' => e = .returned (.bool true) ∧ Below w.heap.size w w' := by
  have HA := Lib.hid hA
  have HA2 := Lib.hid hA2
  have HC := Lib.hid (And.intro (And.intro hn hc) (And.intro hn2 hc2))
  clear hA hA2 hn hc hn2 hc2
  go_enter Try.func7, Try.ntmps7
  go_wp2_with fail
  refine (law22_made A n c f _ HA.out HC.out.1.1 HC.out.1.2).mono ?_
  rintro e w1 ⟨p, b, S, rfl, hm1, hS, hb1⟩
  have M1 := Lib.hid hm1
  have B1 := Lib.hid hb1
  have hz1 := hb1.size
  have A2' := Lib.hid (show ActsIn w1 A2 n2 f2 from HA2.out.imp id fun ⟨ba, off, e, hb, h⟩ => ⟨ba, off, e, by omega, fun i hi => by
    have x := h i hi
    exact ⟨(hb1.cell (p := ⟨ba, _, none⟩) hb).trans x.c0, (hb1.cell (p := ⟨ba, _, none⟩) hb).trans x.c1, (hb1.cell (p := ⟨ba, _, none⟩) hb).trans x.c2, x.kl, x.form, x.bytes.below hb1⟩⟩)
  clear hm1 hb1
  go_wp2_with fail
  refine (law22_made A2 n2 c2 f2 _ A2'.out HC.out.2.1 HC.out.2.2).mono ?_
  rintro e w2 ⟨p2, b2, T, rfl, hm2, hT, hb2⟩
  have M2 := Lib.hid (M1.out.below hb2)
  have N2 := Lib.hid hm2
  have B2 := Lib.hid (B1.out.trans (hb2.mono hz1))
  have hz2 : w.heap.size ≤ w2.heap.size := B2.out.size
  have hge2 := hm2.ge
  have hlt2 := hm2.lt
  have hlt1 := M1.out.lt
  clear hm2 hb2 A2'
  have WS := Lib.hid M2.out.wf
  have WT := Lib.hid N2.out.wf
  have N2' := Lib.hid (N2.out.lower hz1)
  have hlen : (textM S).length ≤ 18000 := by
    have h := textT_len (S := S) (ks := sortM S) (fun k hk => (WS.out.2 k (sortM_mem.1 hk)).2)
    rw [sortM_len] at h
    show (textT S (sortM S)).length ≤ 18000
    omega
  have HLEN := Lib.hid hlen
  clear hlen N2
  go_wp2_with (first
    | (go_at_call 16; refine (mText w.heap.size p b S _ M2.out (by omega)).mono ?_; rintro e w3 ⟨rfl, hb3⟩; obtain ⟨w4, k4, hrun, hbi, hfo, hb4⟩ := conv_form w3 (textM S) (by have := HLEN.out; simp only [maxLen]; omega); have BI4 := Lib.hid hbi; have FO4 := Lib.hid hfo; have M4 := Lib.hid ((M2.out.below hb3).below hb4); have N4 := Lib.hid ((N2'.out.below hb3).below hb4); have B4 := Lib.hid (B2.out.trans ((hb3.trans (hb4.mono hb3.size)).mono hz2)); have hz4 : w2.heap.size ≤ w4.heap.size := Nat.le_trans hb3.size hb4.size; clear hb3 hb4 hbi hfo)
    | (go_at_call 22; refine (rNew _ _ _ (textM S) _ FO4.out (by have := HLEN.out; omega) BI4.out).mono ?_; rintro e w5 ⟨q, rfl, hq5, hr5, hb5⟩; have R5 := Lib.hid hr5; have M5 := Lib.hid (M4.out.below hb5); have N5 := Lib.hid (N4.out.below hb5); have B5 := Lib.hid (B4.out.trans (hb5.mono (by omega))); have hz5 := hb5.size; clear hr5 hb5)
    | (go_at_call 8; refine (mNew _).mono ?_; rintro e w6 ⟨p3, b3, rfl, hm6, hb6⟩; have hge6 := hm6.ge; have T6 := Lib.hid (Txt.mk (lo := w.heap.size) (M5.out.below hb6) (N5.out.below hb6) (R5.out.below hb6) (hm6.lower (by omega)) ⟨by omega, by omega⟩); have B6 := Lib.hid (B5.out.trans (hb6.mono (by omega))); clear hm6 hb6))
  have hqlo : w.heap.size ≤ q := by omega
  clear M1 B1 M2 B2 N2' M4 N4 B4 R5 M5 N5 B5 FO4 BI4 hrun HA HA2 hge2 hlt2 hlt1 hge6 hq5
  go_loopw [9] (fun i wx => ∃ j : Nat, j ≤ S.length ∧ i = .int .i64 j ∧ Txt w.heap.size wx p b p2 b2 q p3 b3 S T (buildM S ((sortM S).take j)) (textT S ((sortM S).drop j)) ∧ Below w.heap.size w wx) (fun i _ => S.length - (intOf i).toNat)
  case atStart => exact ⟨0, Nat.zero_le _, rfl, T6.out, B6.out⟩
  case round =>
    clear T6 B6
    obtain ⟨j, hj, rfl, ht, hbl⟩ := hrel
    obtain ⟨wo, rfl⟩ : ∃ wo : World, wo = wr := ⟨_, rfl⟩
    have T7 := Lib.hid ht
    have B7 := Lib.hid hbl
    have hz7 := hbl.size
    clear ht hbl
    by_cases hlt : j < S.length
    · have d1 : decide (j < S.length) = true := by simpa using hlt
      obtain ⟨key, hkey⟩ : ∃ k, (sortM S)[j]? = some k := ⟨_, List.getElem?_eq_getElem (by rw [sortM_len]; exact hlt)⟩
      have hmem : key ∈ sortM S := List.mem_of_getElem? hkey
      have hwf := WS.out.2 key (sortM_mem.1 hmem)
      have HD := Lib.hid (show textT S ((sortM S).drop j) = textW key ++ (textW (getM S key) ++ textT S ((sortM S).drop (j + 1))) by
        obtain ⟨h1, h2⟩ := List.getElem?_eq_some_iff.1 hkey
        rw [List.drop_eq_getElem_cons h1, h2, textT_cons])
      have HT := Lib.hid (show (sortM S).take (j + 1) = (sortM S).take j ++ [key] by rw [List.take_add_one, hkey]; rfl)
      have HN := Lib.hid (show key ∉ (sortM S).take j from fun hin => by
        have hnd := sortM_nodup WS.out.1
        rw [← List.take_append_drop (j + 1) (sortM S), HT.out, List.append_assoc] at hnd
        exact (List.nodup_append.1 hnd).2.2 key hin key (by simp) rfl)
      have HP := Lib.hid (build_put HN.out hwf.1 hwf.2.1 hwf.2.2)
      have HW := Lib.hid hwf
      have hul : (buildM S ((sortM S).take j)).length ≤ 30 := by unfold buildM; rw [List.length_map, List.length_take, sortM_len]; omega
      have T7' := Lib.hid (HD.out ▸ T7.out)
      clear hmem hwf hkey HD
      go_wp2_with (go_at_call 14; refine (mKeys w.heap.size p b S _ T7.out.m (by omega)).mono ?_; rintro e w8 ⟨B, rfl, _, hb8⟩; have T8 := Lib.hid (T7'.out.below hb8); have B8 := Lib.hid (B7.out.trans (hb8.mono hz7)); clear hb8)
      refine (rText q 16 _ false _ T8.out.r (by omega)).mono ?_
      rintro e w9 hp
      unfold TextPost at hp
      rw [textR_text _ (by have := HW.out.2.1; omega) HW.out.2.1] at hp
      obtain ⟨rfl, hr9, hc9⟩ := hp
      have T9 := Lib.hid (T8.out.read hr9 hc9)
      have B9 := Lib.hid (B8.out.trans (hc9.below B8.out.size (fun i hi => by rw [hi]; exact hqlo)))
      clear hr9 hc9
      go_wp2_with fail
      refine (rText q 512 _ false _ T9.out.r (by omega)).mono ?_
      rintro e w10 hp
      unfold TextPost at hp
      rw [textR_text _ (by have := HW.out.2.2; omega) HW.out.2.2] at hp
      obtain ⟨rfl, hr10, hc10⟩ := hp
      have T10 := Lib.hid (T9.out.read hr10 hc10)
      have B10 := Lib.hid (B9.out.trans (hc10.below B9.out.size (fun i hi => by rw [hi]; exact hqlo)))
      obtain ⟨w11, k11, hrun, hbi, hfo, hb11⟩ := conv_form w10 (getM S key) (by have := HW.out.2.2; simp only [maxLen]; omega)
      have T11 := Lib.hid (T10.out.below hb11)
      have B11 := Lib.hid (B10.out.trans (hb11.mono B10.out.size))
      have hz11 := B11.out.size
      have BI := Lib.hid hbi
      have FO := Lib.hid hfo
      clear hr10 hc10 hb11 hbi hfo
      go_wp2_with (go_at_call 11; refine (mPut w.heap.size p3 b3 _ key _ _ _ (getM S key) _ T11.out.g hz11 (by omega) (by have := HW.out.2.1; simp only [maxLen]; omega) FO.out BI.out).mono ?_; rw [HP.out.1, HP.out.2]; rintro e w12 ⟨rfl, hg12, hw12⟩; have T12 := Lib.hid (T11.out.put hg12 hw12); have B12 := Lib.hid (B11.out.grown hw12 hz11 (fun y hy => by have h : b3 = y := Option.some.inj hy; rw [← h]; exact T11.out.g.ge.2)); clear hg12 hw12)
      go_roundw
      case rel => exact ⟨j + 1, hlt, by go_num, by rw [HT.out]; exact T12.out, B12.out⟩
      case measure => simp [intOf]; omega
    · have d1 : decide (j < S.length) = false := by simpa using hlt
      have hjs : j = S.length := by omega
      have T7' := Lib.hid (show Txt w.heap.size wo p b p2 b2 q p3 b3 S T (buildM S (sortM S)) [] by
        have h := T7.out
        rw [List.take_of_length_le (by rw [sortM_len]; omega), List.drop_eq_nil_of_le (by rw [sortM_len]; omega)] at h
        exact h)
      have HL := Lib.hid (like_text WS.out WT.out)
      clear hjs T7
      go_wp2_with fail
      refine (mKeys w.heap.size p b S _ T7'.out.m (by omega)).mono ?_
      rintro e w8 ⟨B8, rfl, _, hb8⟩
      have T8 := Lib.hid (T7'.out.below hb8)
      have B8' := Lib.hid (B7.out.trans (hb8.mono hz7))
      have hz8 := B8'.out.size
      clear hb8
      go_wp2_with fail
      refine (mKeys w.heap.size p b S _ T8.out.m (by omega)).mono ?_
      rintro e w9 ⟨Ba, rfl, hsa, hb9⟩
      have T9 := Lib.hid (T8.out.below hb9)
      have B9' := Lib.hid (B8'.out.trans (hb9.mono hz8))
      have SA := Lib.hid hsa
      have hz9 := B9'.out.size
      clear hb9 hsa
      go_wp2_with fail
      refine (mKeys w.heap.size p2 b2 T _ T9.out.n (by omega)).mono ?_
      rintro e w10 ⟨Bb, rfl, hsb, hb10⟩
      have T10 := Lib.hid (T9.out.below hb10)
      have B10' := Lib.hid (B9'.out.trans (hb10.mono hz9))
      have SA10 := Lib.hid (SA.out.below hb10)
      have SB := Lib.hid hsb
      have hz10 := B10'.out.size
      clear hb10 hsb
      go_wp2_with (go_at_call 13; refine (same_any Ba Bb S.length T.length _ _ (sortM S) (sortM T) _ SA10.out SB.out (by omega)).mono ?_; rintro e w11 ⟨rfl, N11, rfl⟩; have T11 := Lib.hid (T10.out.below (below_drewN (Below.refl _ _) N11)); have B11' := Lib.hid (below_drewN B10'.out N11); have hz11 := B11'.out.size)
      refine (mKeys w.heap.size p b S _ T11.out.m (by omega)).mono ?_
      rintro e w12 ⟨Bk, rfl, hsk, hb12⟩
      have T12 := Lib.hid (T11.out.below hb12)
      have B12' := Lib.hid (B11'.out.trans (hb12.mono hz11))
      have SK := Lib.hid hsk
      have hz12 := B12'.out.size
      clear hb12 hsk
      go_wp2_with fail
      go_loopw [11, 13] (fun lk i wx => ∃ j : Nat, j ≤ S.length ∧ i = .int .i64 j ∧ lk = .bool (decide (sortM S = sortM T) && ((sortM S).take j).all fun k => getM S k == getM T k) ∧ Txt w.heap.size wx p b p2 b2 q p3 b3 S T (buildM S (sortM S)) [] ∧ Below w12.heap.size w12 wx) (fun _ i _ => S.length - (intOf i).toNat)
      case atStart => exact ⟨0, Nat.zero_le _, rfl, by simp, T12.out, Below.refl _ _⟩
      case round =>
        clear T12 T11 T10 T9 T8 T7'
        obtain ⟨j2, hj2, rfl, rfl, ht, hbl⟩ := hrel
        obtain ⟨wp, rfl⟩ : ∃ wo : World, wo = wr := ⟨_, rfl⟩
        have T13 := Lib.hid ht
        have B13 := Lib.hid hbl
        have hz13 := hbl.size
        have BB13 := Lib.hid (B12'.out.trans (hbl.mono hz12))
        clear ht hbl
        by_cases hlt2 : j2 < S.length
        · have d2 : decide (j2 < S.length) = true := by simpa using hlt2
          obtain ⟨key, hkey⟩ : ∃ k, (sortM S)[j2]? = some k := ⟨_, List.getElem?_eq_getElem (by rw [sortM_len]; exact hlt2)⟩
          obtain ⟨g, rfl, hg, hcs⟩ := SK.out.2.resolve_left (by omega)
          have k0 : ∀ w', Below w12.heap.size w12 w' → w'.cell? ⟨g, j2, none⟩ = some (encStr key) := fun w' hb => (hb.cell (p := ⟨g, j2, none⟩) hg).trans (hcs j2 key hkey)
          have K0 := Lib.hid k0
          have k1 := k0 wp B13.out
          have HT := Lib.hid (show (sortM S).take (j2 + 1) = (sortM S).take j2 ++ [key] by rw [List.take_add_one, hkey]; rfl)
          have HKL := Lib.hid (WS.out.2 key (sortM_mem.1 (List.mem_of_getElem? hkey))).2.1
          clear hcs hkey k0
          go_wp2_with fail
          refine (mGet w.heap.size p b S key _ T13.out.m (by have := HKL.out; simp only [maxLen]; omega)).mono ?_
          rintro e w14 ⟨B14, n14, rfl, hg14, _, _, hb14⟩
          have T14 := Lib.hid (T13.out.below hb14)
          have G14 := Lib.hid hg14
          have B14' := Lib.hid (B13.out.trans (hb14.mono hz13))
          have hz14 := B14'.out.size
          have k2 := K0.out w14 B14'.out
          clear hg14 hb14
          go_wp2_with fail
          refine (mGet w.heap.size p2 b2 T key _ T14.out.n (by have := HKL.out; simp only [maxLen]; omega)).mono ?_
          rintro e w15 ⟨B15, n15, rfl, hg15, _, _, hb15⟩
          have T15 := Lib.hid (T14.out.below hb15)
          have hcv1 := arg_string (c := n14) (G14.out.below hb15)
          have hcv2 := arg_string (c := n15) hg15
          have B15' := Lib.hid (B14'.out.trans (hb15.mono hz14))
          clear hg15 hb15
          have HSN := Lib.hid (show (decide (sortM S = sortM T) && ((sortM S).take (j2 + 1)).all fun k => getM S k == getM T k) = ((decide (sortM S = sortM T) && ((sortM S).take j2).all fun k => getM S k == getM T k) && (getM S key == getM T key)) by
            rw [HT.out, List.all_append, Bool.and_assoc]
            simp)
          generalize (decide (sortM S = sortM T) && ((sortM S).take j2).all fun k => getM S k == getM T k) = L at *
          cases L with
          | false =>
            go_wp2_with fail
            go_roundw
            case rel => exact ⟨j2 + 1, hlt2, by go_num, by rw [HSN.out]; rfl, T15.out, B15'.out⟩
            case measure => simp [intOf]; omega
          | true =>
            by_cases heq : getM S key = getM T key
            · rw [heq] at hcv1
              have HSN' := Lib.hid (HSN.out.trans (show (true && (getM S key == getM T key)) = true by rw [heq]; simp))
              clear heq
              go_wp2_with fail
              go_roundw
              case rel => exact ⟨j2 + 1, hlt2, by go_num, by rw [HSN'.out], T15.out, B15'.out⟩
              case measure => simp [intOf]; omega
            · have e1 : (getM S key == getM T key) = false := by simpa using heq
              have HSN' := Lib.hid (HSN.out.trans (show (true && (getM S key == getM T key)) = false by rw [e1]; rfl))
              clear heq
              go_wp2_with fail
              go_roundw
              case rel => exact ⟨j2 + 1, hlt2, by go_num, by rw [HSN'.out], T15.out, B15'.out⟩
              case measure => simp [intOf]; omega
        · have d2 : decide (j2 < S.length) = false := by simpa using hlt2
          have HLK := Lib.hid (show (decide (sortM S = sortM T) && ((sortM S).take j2).all fun k => getM S k == getM T k) = decide (textM S = textM T) by
            rw [List.take_of_length_le (by rw [sortM_len]; omega)]; exact HL.out)
          rw [HLK.out]
          clear HLK
          have HBT := Lib.hid (build_text WS.out.1)
          have HBL := Lib.hid (show (buildM S (sortM S)).length = S.length by unfold buildM; rw [List.length_map, sortM_len])
          have hzb := BB13.out.size
          by_cases hst : textM S = textM T
          · have HST := Lib.hid hst
            have hdt : decide (textM S = textM T) = true := by simpa using hst
            rw [hdt]
            clear hst hdt
            go_wp2_with (first
              | (go_at_call 20; refine (awake22 _).mono ?_; rintro e v1 ⟨rfl, hb⟩; have V1 := Lib.hid (T13.out.below hb); have C1 := Lib.hid (BB13.out.trans (hb.mono hzb)); have hy1 := C1.out.size; clear hb)
              | (go_at_call 24; refine (rEnd q [] false _ V1.out.r).mono ?_; rintro e v2 ⟨rfl, rfl⟩))
            refine (mText w.heap.size p3 b3 _ _ V1.out.g (by rw [HBL.out]; omega)).mono ?_
            rw [HBT.out]
            rintro e v3 ⟨rfl, hb⟩
            have V3 := Lib.hid (V1.out.below hb)
            have C3 := Lib.hid (C1.out.trans (hb.mono hy1))
            have hy3 := C3.out.size
            clear hb
            go_wp2_with fail
            refine (mText w.heap.size p b _ _ V3.out.m (by omega)).mono ?_
            rintro e v4 ⟨rfl, hb⟩
            have V4 := Lib.hid (V3.out.below hb)
            have C4 := Lib.hid (C3.out.trans (hb.mono hy3))
            have hy4 := C4.out.size
            clear hb
            go_wp2_with fail
            refine (mText w.heap.size p b _ _ V4.out.m (by omega)).mono ?_
            rintro e v5 ⟨rfl, hb⟩
            have V5 := Lib.hid (V4.out.below hb)
            have C5 := Lib.hid (C4.out.trans (hb.mono hy4))
            have hy5 := C5.out.size
            clear hb
            go_wp2_with fail
            refine (mText w.heap.size p2 b2 _ _ V5.out.n (by omega)).mono ?_
            rw [← HST.out]
            rintro e v6 ⟨rfl, hb⟩
            have C6 := Lib.hid (C5.out.trans (hb.mono hy5))
            clear hb
            go_wp2_with fail
            go_ret
            exact ⟨rfl, C6.out⟩
          · have hdt : decide (textM S = textM T) = false := by simpa using hst
            rw [hdt]
            have e1 : (textM S == textM T) = false := by simpa using hst
            clear hst hdt
            go_wp2_with (first
              | (go_at_call 20; refine (awake22 _).mono ?_; rintro e v1 ⟨rfl, hb⟩; have V1 := Lib.hid (T13.out.below hb); have C1 := Lib.hid (BB13.out.trans (hb.mono hzb)); have hy1 := C1.out.size; clear hb)
              | (go_at_call 24; refine (rEnd q [] false _ V1.out.r).mono ?_; rintro e v2 ⟨rfl, rfl⟩))
            refine (mText w.heap.size p3 b3 _ _ V1.out.g (by rw [HBL.out]; omega)).mono ?_
            rw [HBT.out]
            rintro e v3 ⟨rfl, hb⟩
            have V3 := Lib.hid (V1.out.below hb)
            have C3 := Lib.hid (C1.out.trans (hb.mono hy1))
            have hy3 := C3.out.size
            clear hb
            go_wp2_with fail
            refine (mText w.heap.size p b _ _ V3.out.m (by omega)).mono ?_
            rintro e v4 ⟨rfl, hb⟩
            have V4 := Lib.hid (V3.out.below hb)
            have C4 := Lib.hid (C3.out.trans (hb.mono hy3))
            have hy4 := C4.out.size
            clear hb
            go_wp2_with fail
            refine (mText w.heap.size p b _ _ V4.out.m (by omega)).mono ?_
            rintro e v5 ⟨rfl, hb⟩
            have V5 := Lib.hid (V4.out.below hb)
            have C5 := Lib.hid (C4.out.trans (hb.mono hy4))
            have hy5 := C5.out.size
            clear hb
            go_wp2_with fail
            refine (mText w.heap.size p2 b2 _ _ V5.out.n (by omega)).mono ?_
            rintro e v6 ⟨rfl, hb⟩
            have C6 := Lib.hid (C5.out.trans (hb.mono hy5))
            clear hb
            go_wp2_with fail
            go_ret
            exact ⟨rfl, C6.out⟩
end Go.Proofs.Ytgkgieemdjbhpaa
