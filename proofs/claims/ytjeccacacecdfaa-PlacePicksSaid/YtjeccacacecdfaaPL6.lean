/- The document's choice: the list of those that may be chosen. No condition beyond those that each theorem states. -/
import Derived.Test.YtjeccacacecdfaaPL5
import Derived.Deep.DeepCutAuto
import Derived.Deep.CutBlock
import Derived.Deep.QuietTactic
import Derived.WalkSpells
import Derived.WalkLawsBesides
namespace Go.Proofs.Ytjeccacacecdfaa
open Go.RowKit Go.Shelf Go.Maps

set_option maxHeartbeats 1000000 in
theorem refIn (A : Option Addr) (n c : Nat) (l : List Int) (x : Int) (w : World) (h : IntsIn w A n l) (hn : n ≤ 1000000) :
    Calls Try.prog 19 #[.slice A n c, .int .i64 x] w fun e w' => e = .returned (.bool (inL l x)) ∧ w = w' := by
  obtain ⟨hl, hA⟩ := h
  have HL := Lib.hid hl
  clear hl
  go_enter Try.func19, Try.ntmps19
  go_wp2_with fail
  go_loop [5] (fun i => ∃ k : Nat, k ≤ n ∧ i = .int .i64 k ∧ ∀ (j : Nat) (u : Int), j < k → l[j]? = some u → u ≠ x) (fun i => n - (intOf i).toNat)
  case atStart => exact ⟨0, by omega, rfl, fun j u hj => by omega⟩
  case round =>
    obtain ⟨k, hk, rfl, hno⟩ := hrel
    have HNO := Lib.hid hno
    clear hno
    by_cases hlt : k < n
    · obtain ⟨b, off, rfl, hb, hc⟩ := hA.resolve_left (by omega)
      obtain ⟨u, hu⟩ : ∃ u, l[k]? = some u := ⟨_, List.getElem?_eq_getElem (by rw [HL.out]; exact hlt)⟩
      have k0 := hc k u hu
      have HU := Lib.hid hu
      have d1 : decide (k < n) = true := by simpa using hlt
      clear hc hu
      by_cases hux : u = x
      · subst hux
        have e1 : inL l u = true := by unfold inL; simpa using List.mem_of_getElem? HU.out
        have E1 := Lib.hid e1
        clear e1
        go_wp2_with fail
        go_ret
        exact ⟨bool_val E1.out.symm, rfl⟩
      · have d2 : (u == x) = false := by simpa using hux
        go_wp2_with fail
        go_round
        case rel => exact ⟨k + 1, hlt, by go_num, fun j v hj hv => by
          by_cases hjk : j = k
          · subst hjk
            rw [HU.out] at hv
            cases hv
            exact hux
          · exact HNO.out j v (by omega) hv⟩
        case measure => simp [intOf]; omega
    · have d1 : decide (k < n) = false := by simpa using hlt
      have e1 : inL l x = false := by
        unfold inL
        rw [decide_eq_false_iff_not]
        intro hx
        obtain ⟨j, hj⟩ := List.mem_iff_getElem?.1 hx
        exact absurd rfl (HNO.out j x (by have := (List.getElem?_eq_some_iff.1 hj).1; have := HL.out; omega) hj)
      have E1 := Lib.hid e1
      clear e1
      go_wp2_with fail
      go_ret
      exact ⟨bool_val E1.out.symm, rfl⟩

def freeV (p : Int × Int) : List Value := [.int .i64 p.1, .int .i64 p.2]
theorem freeV_len (p : Int × Int) : (freeV p).length = 2 := rfl
def freeVs (E : List (Int × Int)) : List Value := E.flatMap freeV
theorem freeVs_len (E : List (Int × Int)) : (freeVs E).length = E.length * 2 := flat_length freeV_len E
theorem freeVs_snoc (E : List (Int × Int)) (p : Int × Int) : freeVs (E ++ [p]) = freeVs E ++ freeV p := by simp [freeVs]
theorem free_info : (Try.prog.info? 32).map (fun i => (i.zero, i.size, i.bytes)) = some (some (.agg #[.int .i64 0, .int .i64 0]), 2, 16) := by kernel_rfl
section
variable {w : World} {base g n cap : Nat} {E : List (Int × Int)}
theorem row_cart (h : w.ownsRow base 32 2 (.slice (some ⟨g, 0, none⟩) n cap) n (freeVs E)) {i : Nat} {p : Int × Int} (hp : E[i]? = some p) : w.cell? ⟨g, i * 2, none⟩ = some (.int .i64 p.1) := by
  have := own_cell h (j := i * 2 + 0) (by rw [freeVs, flat_get freeV_len hp (by decide)]; rfl)
  simpa using this
theorem row_room (h : w.ownsRow base 32 2 (.slice (some ⟨g, 0, none⟩) n cap) n (freeVs E)) {i : Nat} {p : Int × Int} (hp : E[i]? = some p) : w.cell? ⟨g, i * 2 + 1, none⟩ = some (.int .i64 p.2) :=
  own_cell h (j := i * 2 + 1) (by rw [freeVs, flat_get freeV_len hp (by decide)]; rfl)
end

theorem own_made (W : World) {base g : Nat} (t : TypeId) (size : Nat) (hg : g = W.heap.size) (h : base ≤ g) : (W.alloc (.cells #[] t)).ownsRow base t size (.slice (some ⟨g, 0, none⟩) 0 0) 0 [] := by
  subst hg
  exact ⟨by simp, .inr ⟨_, 0, #[], rfl, h, heap_alloc_new _ _, Nat.le_refl _, by simp [maxLen], by simp, by simp⟩⟩
/-- The list of those that may be chosen, in memory; and the list of the chosen, still empty. -/
structure MayRow (w wx : World) (v : Value) (E : List (Int × Int)) : Prop where
  row : ∃ g cap, v = .slice (some ⟨g, 0, none⟩) E.length cap ∧ wx.ownsRow (w.heap.size + 1) 32 2 (.slice (some ⟨g, 0, none⟩) E.length cap) E.length (freeVs E)
  below : Below w.heap.size w wx
  out : wx.ownsRow w.heap.size 3 1 (.slice (some ⟨w.heap.size, 0, none⟩) 0 0) 0 []
theorem MayRow.keep {w wx wy : World} {v : Value} {E : List (Int × Int)} (h : MayRow w wx v E) (hb : Below wx.heap.size wx wy) : MayRow w wy v E := by
  obtain ⟨⟨g, cap, rfl, h1⟩, h2, h3⟩ := h
  exact ⟨⟨g, cap, rfl, own_of_eq h1 (fun q hq => hb.block q (h1.lt q hq).2)⟩, h2.trans (hb.mono h2.size), own_of_eq h3 (fun q hq => hb.block q (h3.lt q hq).2)⟩
def anyC (E : List (Int × Int)) (c : Int) : Bool := E.any fun p => p.1 == c
theorem anyC_snoc {E : List (Int × Int)} {c : Int} {j : Nat} {p : Int × Int} (h : E[j]? = some p) : anyC (E.take (j + 1)) c = (anyC (E.take j) c || p.1 == c) := by
  unfold anyC
  rw [List.take_add_one, h]
  simp

theorem metK_nodup (fs : List (Int × Int)) (but : List Int) : ∀ k, ((metK fs but k).map Prod.fst).Nodup := by
  intro k
  induction k with
  | zero => simp [metK]
  | succ k ih =>
    unfold metK
    split
    · exact ih
    · rename_i f hf
      unfold metS
      split
      · rename_i hc
        rw [List.map_append, List.nodup_append]
        refine ⟨ih, by simp, fun a ha b hb => ?_⟩
        have hb : b = f.1 := by simpa using hb
        subst hb
        intro e
        subst e
        rw [hasE_mem.2 ha] at hc
        simp at hc
      · exact ih
theorem valE_mem {E : List (Int × Int)} (h : (E.map Prod.fst).Nodup) {p : Int × Int} (hp : p ∈ E) : valE E p.1 = p.2 := by
  induction E with
  | nil => cases hp
  | cons x E ih =>
    rw [List.map_cons, List.nodup_cons] at h
    unfold valE
    by_cases hx : x.1 = p.1
    · rcases List.mem_cons.1 hp with rfl | hp
      · simp
      · exact absurd (by rw [hx]; exact List.mem_map_of_mem hp) h.1
    · rcases List.mem_cons.1 hp with rfl | hp
      · exact absurd rfl hx
      · rw [List.find?_cons_of_neg (by simpa using hx)]
        exact ih h.2 hp
/-- Which is the best so far of those that are not yet chosen. -/
def Best (E : List (Int × Int)) (O : List Int) (i : Nat) (at_ : Int) : Prop :=
  (at_ = -1 ∧ ∀ (j : Nat) (p : Int × Int), j < i → E[j]? = some p → p.1 ∈ O) ∨ ∃ (a : Nat) (pa : Int × Int), at_ = a ∧ a < i ∧ E[a]? = some pa ∧ pa.1 ∉ O ∧ ∀ (j : Nat) (p : Int × Int), j < i → E[j]? = some p → p.1 ∉ O → j = a ∨ ltE E pa.1 p.1 = true
theorem Best.skip {E : List (Int × Int)} {O : List Int} {i : Nat} {at_ : Int} {p : Int × Int} (h : Best E O i at_) (hp : E[i]? = some p) (hO : p.1 ∈ O) : Best E O (i + 1) at_ := by
  have key : ∀ (j : Nat) (x : Int × Int), j < i + 1 → E[j]? = some x → x.1 ∉ O → j < i := fun j x hj hx hn => by
    rcases Nat.lt_or_ge j i with h | h
    · exact h
    · have : j = i := by omega
      subst this
      rw [hp] at hx
      cases hx
      exact absurd hO hn
  rcases h with ⟨h1, h2⟩ | ⟨a, pa, h1, h2, h3, h4, h5⟩
  · exact .inl ⟨h1, fun j x hj hx => Classical.byContradiction fun hn => hn (h2 j x (key j x hj hx hn) hx)⟩
  · exact .inr ⟨a, pa, h1, by omega, h3, h4, fun j x hj hx hn => h5 j x (key j x hj hx hn) hx hn⟩
theorem Best.first {E : List (Int × Int)} {O : List Int} {i : Nat} {p : Int × Int} (h : Best E O i (-1)) (hp : E[i]? = some p) (hO : p.1 ∉ O) : Best E O (i + 1) i := by
  rcases h with ⟨_, h2⟩ | ⟨a, pa, h1, _⟩
  · refine .inr ⟨i, p, rfl, by omega, hp, hO, fun j x hj hx hn => ?_⟩
    rcases Nat.lt_or_ge j i with h | h
    · exact absurd (h2 j x h hx) hn
    · exact .inl (by omega)
  · omega
theorem Best.better {E : List (Int × Int)} {O : List Int} {i a : Nat} {p pa : Int × Int} (h : Best E O i a) (ha : E[a]? = some pa) (hp : E[i]? = some p) (hO : p.1 ∉ O) (hl : ltE E p.1 pa.1 = true) : Best E O (i + 1) i := by
  rcases h with ⟨h1, _⟩ | ⟨a', pa', h1, h2, h3, h4, h5⟩
  · omega
  · have : a' = a := by omega
    subst this
    rw [ha] at h3
    cases h3
    refine .inr ⟨i, p, rfl, by omega, hp, hO, fun j x hj hx hn => ?_⟩
    rcases Nat.lt_or_ge j i with h | h
    · rcases h5 j x h hx hn with e | e
      · subst e
        rw [ha] at hx
        cases hx
        exact .inr hl
      · exact .inr (ltE_trans E hl e)
    · exact .inl (by omega)
theorem Best.worse {E : List (Int × Int)} {O : List Int} {i a : Nat} {p pa : Int × Int} (h : Best E O i a) (ha : E[a]? = some pa) (hp : E[i]? = some p) (hne : p.1 ≠ pa.1) (hl : ltE E p.1 pa.1 = false) : Best E O (i + 1) a := by
  rcases h with ⟨h1, _⟩ | ⟨a', pa', h1, h2, h3, h4, h5⟩
  · omega
  · have : a' = a := by omega
    subst this
    rw [ha] at h3
    cases h3
    refine .inr ⟨a', pa, rfl, by omega, ha, h4, fun j x hj hx hn => ?_⟩
    rcases Nat.lt_or_ge j i with h | h
    · exact h5 j x h hx hn
    · have : j = i := by omega
      subst this
      rw [hp] at hx
      cases hx
      exact .inr (ltE_total E (fun e => hne e.symm) hl)
theorem best_next {E : List (Int × Int)} {S : List Int} {t : Nat} {at_ : Int} (hnd : (E.map Prod.fst).Nodup) (hS : Ranked E S) (ht : t < S.length) (h : Best E (S.take t) E.length at_) : ∃ (a : Nat) (pa : Int × Int), at_ = a ∧ a < E.length ∧ E[a]? = some pa ∧ S[t]? = some pa.1 := by
  have hSn : S.Nodup := (hS.perm.nodup_iff).2 hnd
  have hs : S[t]? = some S[t] := List.getElem?_eq_getElem ht
  have hsE : S[t] ∈ E.map Prod.fst := hS.perm.subset (List.getElem_mem ht)
  obtain ⟨ps, hps, hpe⟩ := List.mem_map.1 hsE
  obtain ⟨js, hjs⟩ := List.mem_iff_getElem?.1 hps
  have hjl : js < E.length := (List.getElem?_eq_some_iff.1 hjs).1
  have hnot : S[t] ∉ S.take t := fun hm => by
    obtain ⟨u, hu, hue⟩ := List.mem_iff_getElem.1 hm
    rw [List.length_take] at hu
    rw [List.getElem_take] at hue
    rw [List.nodup_iff_pairwise_ne, List.pairwise_iff_getElem] at hSn
    exact hSn u t (by omega) ht (by omega) hue
  rcases h with ⟨_, h2⟩ | ⟨a, pa, h1, h2, h3, h4, h5⟩
  · exact absurd (by rw [← hpe]; exact h2 js ps hjl hjs) hnot
  · refine ⟨a, pa, h1, h2, h3, ?_⟩
    have hpa : pa.1 ∈ S := hS.perm.symm.subset (List.mem_map_of_mem (List.mem_of_getElem? h3))
    obtain ⟨u, hu, hue⟩ := List.mem_iff_getElem.1 hpa
    have hut : t ≤ u := by
      rcases Nat.lt_or_ge u t with h | h
      · exact absurd (by rw [← hue]; exact List.mem_take_iff_getElem.2 ⟨u, by omega, rfl⟩) h4
      · exact h
    rcases Nat.lt_or_ge t u with h | h
    · have hlt : ltE E S[t] pa.1 = true := by
        rw [← hue]
        exact (List.pairwise_iff_getElem.1 hS.sorted) t u ht hu h
      rcases h5 js ps hjl hjs (by rw [hpe]; exact hnot) with e | e
      · subst e
        rw [hjs] at h3
        cases h3
        rw [hs, ← hpe]
      · rw [hpe] at e
        have := ltE_trans E hlt e
        rw [ltE_irrefl] at this
        cases this
    · have : u = t := by omega
      subst this
      rw [hs, hue]
theorem quiet_eq {P : Program} {f : FuncId} {args : Array Value} {w : World} {n : Nat} {v : Value} (h : Calls P f args (w.drewN n) fun e w' => e = .returned v ∧ w.drewN n = w') :
    Calls P f args (w.drewN n) fun e w' => e = .returned v ∧ ∃ m, w' = w.drewN m :=
  h.mono fun _ _ ⟨he, hm⟩ => ⟨he, n, hm.symm⟩
/-- The chosen so far, and those that may be chosen, in memory. -/
structure OutMay (w wx : World) (go_ cco t g cap : Nat) (E : List (Int × Int)) (S : List Int) : Prop where
  out : wx.ownsRow w.heap.size 3 1 (.slice (some ⟨go_, 0, none⟩) t cco) t (intVs (S.take t))
  may : wx.ownsRow (w.heap.size + 1) 32 2 (.slice (some ⟨g, 0, none⟩) E.length cap) E.length (freeVs E)
  below : Below w.heap.size w wx
theorem OutMay.drewN {w wx : World} {go_ cco t g cap : Nat} {E : List (Int × Int)} {S : List Int} (h : OutMay w wx go_ cco t g cap E S) (N : Nat) : OutMay w (wx.drewN N) go_ cco t g cap E S := ⟨own_drewN h.out N, own_drewN h.may N, below_drewN h.below N⟩
theorem own_ints {w : World} {base g n cap : Nat} {l : List Int} (h : w.ownsRow base 3 1 (.slice (some ⟨g, 0, none⟩) n cap) n (intVs l)) (hl : l.length = n) : IntsIn w (some ⟨g, 0, none⟩) n l := by
  have := (RowAt.of_own h).ints
  rw [hl] at this
  exact this

set_option maxRecDepth 100000 in
set_option maxHeartbeats 40000000 in
theorem refPick (A : Option Addr) (n c : Nat) (fs : List (Int × Int)) (k : Int) (B : Option Addr) (m d : Nat) (but : List Int) (w : World) (hA : FreesIn w A n fs) (hB : IntsIn w B m but) (hn : n ≤ 100) (hm : m ≤ 1000000) (S : List Int) (hS : Ranked (metM fs but) S) :
    Calls Try.prog 9 #[.slice A n c, .int .i64 k, .slice B m d] w fun e w' => Below w.heap.size w w' ∧ ((¬ (0 ≤ k ∧ k ≤ (metM fs but).length) ∧ ∃ g cc, e = .returned (.tuple #[.slice (some ⟨g, 0, none⟩) 0 cc, .bool false])) ∨
      ∃ (q : Nat) (g cc : Nat), k = q ∧ q ≤ (metM fs but).length ∧ e = .returned (.tuple #[.slice (some ⟨g, 0, none⟩) q cc, .bool true]) ∧ IntsIn w' (some ⟨g, 0, none⟩) q (S.take q)) := by
  have HA := Lib.hid hA
  have HB := Lib.hid hB
  have HS := Lib.hid hS
  obtain ⟨i0, hi0, hz0, hz1, hz2⟩ := info_parts free_info
  obtain ⟨j0, hj0, hy0, hy1, hy2⟩ := info_parts mint_info
  have HFL := Lib.hid hA.1
  clear hA hB hS
  by_cases hk0 : k < 0
  · have dk : decide (k < 0) = true := by simpa using hk0
    go_enter Try.func9, Try.ntmps9
    go_wp2_with fail
    go_ret2
    exact ⟨(Below.refl _ _).alloc (Nat.le_refl _) _, .inl ⟨by omega, _, _, rfl⟩⟩
  · obtain ⟨q, rfl⟩ := Int.eq_ofNat_of_zero_le (show 0 ≤ k by omega)
    have dk : decide ((q : Int) < 0) = false := by simp
    go_enter Try.func9, Try.ntmps9
    go_upto_block 0 with fail
    go_cut [9] (fun s9 wx => MayRow w wx s9 (metM fs but))
    case first =>
      go_wp2_with fail
      go_loopw [9, 10] (fun v i wx => ∃ j : Nat, j ≤ n ∧ i = .int .i64 j ∧ MayRow w wx v (metK fs but j)) (fun _ i _ => n - (intOf i).toNat)
      case atStart =>
        refine ⟨0, Nat.zero_le _, rfl, ⟨⟨_, 0, rfl, ?_⟩, ((Below.refl _ _).alloc (Nat.le_refl _) _).alloc (by simp) _, ?_⟩⟩
        · exact own_made (w.alloc (.cells #[] 3)) _ 2 (by simp) (by simp)
        · exact (own_made w _ 1 rfl (Nat.le_refl _)).alloc _
      case round =>
        obtain ⟨j, hj, rfl, hmr⟩ := hrel
        obtain ⟨wo, rfl⟩ : ∃ wo : World, wo = wr := ⟨_, rfl⟩
        have MR := Lib.hid hmr
        obtain ⟨⟨g, cap, rfl, hrow⟩, hbl, hout⟩ := hmr
        by_cases hlt : j < n
        · have d1 : decide (j < n) = true := by simpa using hlt
          obtain ⟨⟨fc, fr⟩, hf⟩ : ∃ f, fs[j]? = some f := ⟨_, List.getElem?_eq_getElem (by rw [HFL.out]; exact hlt)⟩
          obtain ⟨b, off, rfl, hbw, hcs⟩ := HA.out.2.1.resolve_left (by omega)
          have hk0' : ∀ N, (wo.drewN N).cell? ⟨b, off + j * 2, none⟩ = some (.int .i64 fc) := fun N => (hbl.cell (p := ⟨b, off + j * 2, none⟩) hbw).trans (hcs j fc fr hf).1
          have hk1' : wo.cell? ⟨b, off + j * 2 + 1, none⟩ = some (.int .i64 fr) := (hbl.cell (p := ⟨b, off + j * 2 + 1, none⟩) hbw).trans (hcs j fc fr hf).2
          have hk2' : wo.cell? ⟨b, off + j * 2, none⟩ = some (.int .i64 fc) := hk0' 0
          have hbz : b < wo.heap.size := by have := hbl.size; omega
          have e1 : metK fs but (j + 1) = metS but (metK fs but j) (fc, fr) := by
            conv => lhs; unfold metK
            rw [hf]
          have hE : (metK fs but j).length ≤ j := metK_len fs but j
          generalize hEE : metK fs but j = E at *
          have E1 := Lib.hid e1
          have HR := Lib.hid hrow
          have HBL := Lib.hid hbl
          have HO := Lib.hid hout
          have hgl := hrow.lt g rfl
          have BIN := Lib.hid (HB.out.below hbl)
          have hzz := hbl.size
          clear e1 hcs hf hrow hbl hout hEE
          go_upto_region 8 with fail
          go_cut [11] (fun s11 wx => s11 = .bool (decide (0 < fr) && !inL but fc) ∧ wx = wo)
          case first =>
            by_cases hp : 0 < fr
            · have d2 : decide (0 < fr) = true := by simpa using hp
              go_wp2_with (go_at_call 19; refine (refIn B m d but fc _ BIN.out hm).mono ?_; rintro e w1 ⟨rfl, rfl⟩)
              go_meet
              exact ⟨by simp [d2], rfl⟩
            · have d2 : decide (0 < fr) = false := by simpa using hp
              go_wp2_with fail
              go_meet
              exact ⟨by simp [d2], rfl⟩
          case rest =>
            obtain ⟨rfl, rfl⟩ := hcut
            obtain ⟨wo, rfl⟩ : ∃ wo : World, wo = wc := ⟨_, rfl⟩
            have e2 : metS but E (fc, fr) = if (decide (0 < fr) && !inL but fc) && !anyC E fc then E ++ [(fc, fr)] else E := by
              unfold metS hasE anyC
              congr 1
              cases decide (0 < fr) <;> cases inL but fc <;> simp
            have E2 := Lib.hid e2
            clear e2
            generalize (decide (0 < fr) && !inL but fc) = b0 at *
            have hE2 : E.length ≤ 100 := by omega
            go_wp2_with fail
            go_loopw [11, 12] (fun v i wx => ∃ t N : Nat, t ≤ E.length ∧ i = .int .i64 t ∧ v = .bool (b0 && !anyC (E.take t) fc) ∧ wx = wo.drewN N) (fun _ i _ => E.length - (intOf i).toNat)
            case atStart => exact ⟨0, 0, Nat.zero_le _, rfl, by simp [anyC], rfl⟩
            case round =>
              obtain ⟨t, N, ht, rfl, rfl, rfl⟩ := hrel
              by_cases htl : t < E.length
              · have d3 : decide (t < E.length) = true := by simpa using htl
                obtain ⟨⟨pc, pr⟩, hp⟩ : ∃ p, E[t]? = some p := ⟨_, List.getElem?_eq_getElem htl⟩
                have kp : ∀ N, (wo.drewN N).cell? ⟨g, t * 2, none⟩ = some (.int .i64 pc) := fun N => row_cart HR.out hp
                have AS := Lib.hid (anyC_snoc (c := fc) hp)
                clear hp
                cases hcur : (b0 && !anyC (E.take t) fc) with
                | true =>
                  by_cases hpc : pc = fc
                  · have d4 : (pc != fc) = false := by simpa using hpc
                    have e5 : (b0 && !anyC (E.take (t + 1)) fc) = false := by rw [AS.out, show (pc == fc) = true by simpa using hpc]; simp
                    have E5 := Lib.hid e5
                    clear e5 hpc hcur
                    go_wp2_with fail
                    go_quiet (fail)
                    go_wp2_with fail
                    go_roundw
                    case rel => exact ⟨t + 1, _, htl, by go_num, by rw [E5.out], rfl⟩
                    case measure => simp [intOf]; omega
                  · have d4 : (pc != fc) = true := by simpa using hpc
                    have e5 : (b0 && !anyC (E.take (t + 1)) fc) = true := by rw [AS.out, show (pc == fc) = false by simpa using hpc, Bool.or_false, hcur]
                    have E5 := Lib.hid e5
                    clear e5 hpc hcur
                    go_wp2_with fail
                    go_quiet (fail)
                    go_wp2_with fail
                    go_roundw
                    case rel => exact ⟨t + 1, _, htl, by go_num, by rw [E5.out], rfl⟩
                    case measure => simp [intOf]; omega
                | false =>
                  have e5 : (b0 && !anyC (E.take (t + 1)) fc) = false := by
                    rw [AS.out]
                    cases b0 with
                    | false => rfl
                    | true =>
                      have h : anyC (E.take t) fc = true := by simpa using hcur
                      rw [h]; simp
                  have E5 := Lib.hid e5
                  clear e5 hcur
                  go_wp2_with fail
                  go_quiet (fail)
                  go_wp2_with fail
                  go_roundw
                  case rel => exact ⟨t + 1, _, htl, by go_num, by rw [E5.out], rfl⟩
                  case measure => simp [intOf]; omega
              · have d3 : decide (t < E.length) = false := by simpa using htl
                rw [List.take_of_length_le (show E.length ≤ t by omega)]
                cases hcur : (b0 && !anyC E fc) with
                | true =>
                  have e5 : metK fs but (j + 1) = E ++ [(fc, fr)] := by rw [E1.out, E2.out, if_pos hcur]
                  have E5 := Lib.hid e5
                  clear e5 hcur
                  go_wp2_with (
                    (at_builtin
                     refine wpList_append_form _ rfl (.tmp 63) (.tmp 68) 22 rfl (w.heap.size + 1) 32 i0 _ 2 16 Try.underlying22 hi0 hz0 hz1 hz2 rfl (by omega) _ E.length (freeVs E) rfl (by exact (own_drewN HR.out N).alloc _) (some ⟨wo.heap.size, 0, none⟩) 1 1 (freeV (fc, fr)) rfl rfl (fun e => by cases e) (by exact src_new _ _ _ _) (by intro u hu; simp only [freeV, List.mem_cons, List.not_mem_nil, or_false] at hu; rcases hu with rfl | rfl <;> rfl) (by omega) (by simp only [maxLen]; omega) (by omega) (by simp; omega) ?_
                     intro g2 cap2 w4 hown4 hg4 hat4 hlt4
                     have RW4 := Lib.hid hown4
                     have G4 := Lib.hid hg4
                     clear hown4 hg4 hat4))
                  go_roundw
                  case rel =>
                    refine ⟨j + 1, hlt, by go_num, ?_⟩
                    rw [E5.out]
                    refine ⟨⟨g2, cap2, by simp, by rw [freeVs_snoc, List.length_append]; exact RW4.out⟩, ((below_drewN HBL.out N).alloc (by exact HBL.out.size) _).grown G4.out (by simp; omega) (fun q hq => by have h : g = q := Option.some.inj hq; omega), ?_⟩
                    exact own_of_eq HO.out (fun q hq => by
                      have h : w.heap.size = q := Option.some.inj hq
                      subst h
                      have hw : w.heap.size < wo.heap.size := (HO.out.lt _ rfl).2
                      exact (G4.out.block _ (by simp; omega) (fun e => by have h : w.heap.size = g := Option.some.inj e; omega)).trans (Below.heap_alloc _ _ _ hw))
                  case measure => simp [intOf]; omega
                | false =>
                  have e5 : metK fs but (j + 1) = E := by rw [E1.out, E2.out, if_neg (by rw [hcur]; simp)]
                  have E5 := Lib.hid e5
                  clear e5 hcur
                  go_wp2_with fail
                  go_roundw
                  case rel => exact ⟨j + 1, hlt, by go_num, by rw [E5.out]; exact MR.out.keep (below_drewN (Below.refl _ _) _)⟩
                  case measure => simp [intOf]; omega
        · have d1 : decide (j < n) = false := by simpa using hlt
          have ej : metK fs but j = metM fs but := by unfold metM; rw [HFL.out, show j = n by omega]
          have EJ := Lib.hid ej
          clear ej hrow hbl hout
          go_wp2_with fail
          go_meet
          rw [← EJ.out]
          exact MR.out
    case rest =>
      have hE100 : (metM fs but).length ≤ 100 := by
        have := metK_len fs but fs.length
        have := HFL.out
        unfold metM
        omega
      have hnd : ((metM fs but).map Prod.fst).Nodup := metK_nodup fs but _
      generalize hE0 : metM fs but = E at *
      have HE0 := Lib.hid hE0
      clear hE0
      have hSl : S.length = E.length := by have := HS.out.perm.length_eq; simpa using this
      have HSL := Lib.hid hSl
      have HND := Lib.hid hnd
      obtain ⟨⟨g, cap, rfl, hrow⟩, hbl, hout⟩ := hcut
      have HR := Lib.hid hrow
      have HBL := Lib.hid hbl
      have HO := Lib.hid hout
      clear hSl hnd hrow hbl hout
      by_cases hq : E.length < q
      · have dq : decide (E.length < q) = true := by simpa using hq
        go_wp2_with fail
        go_ret2
        exact ⟨HBL.out, .inl ⟨by rw [HE0.out]; omega, _, _, rfl⟩⟩
      · have dq : decide (E.length < q) = false := by simpa using hq
        have hqS : q ≤ S.length := by rw [HSL.out]; omega
        have hgl := HR.out.lt g rfl
        go_wp2_with fail
        go_loopw [8] (fun v wx => ∃ t go_ cco : Nat, t ≤ q ∧ v = .slice (some ⟨go_, 0, none⟩) t cco ∧ OutMay w wx go_ cco t g cap E S) (fun v _ => q - sliceLen v)
        case atStart => exact ⟨0, _, _, Nat.zero_le _, rfl, HO.out, HR.out, HBL.out⟩
        case round =>
          obtain ⟨t, go_, cco, ht, rfl, hom⟩ := hrel
          obtain ⟨wo, rfl⟩ : ∃ wo : World, wo = wr := ⟨_, rfl⟩
          have OM := Lib.hid hom
          clear hom
          by_cases htq : t < q
          · have dt : decide (t < q) = true := by simpa using htq
            have htm : t ≤ 1000000 := by omega
            go_wp2_with fail
            go_loopw [13, 14] (fun s13 s14 wx => ∃ (i : Nat) (at_ : Int), i ≤ E.length ∧ s14 = .int .i64 i ∧ s13 = .int .i64 at_ ∧ OutMay w wx go_ cco t g cap E S ∧ Best E (S.take t) i at_) (fun _ i _ => E.length - (intOf i).toNat)
            case atStart => exact ⟨0, -1, Nat.zero_le _, rfl, rfl, OM.out, .inl ⟨rfl, fun j p hj => by omega⟩⟩
            case round =>
              obtain ⟨i, at_, hi, rfl, rfl, hom2, hbest⟩ := hrel
              obtain ⟨wz, rfl⟩ : ∃ wz : World, wz = wr := ⟨_, rfl⟩
              have OZ := Lib.hid hom2
              have IN := Lib.hid (fun N : Nat => (own_ints hom2.out (by rw [List.length_take]; omega)).below (below_drewN (Below.refl wz.heap.size wz) N))
              clear hom2
              by_cases hil : i < E.length
              · have di : decide (i < E.length) = true := by simpa using hil
                obtain ⟨⟨pc, pr⟩, hp⟩ : ∃ p, E[i]? = some p := ⟨_, List.getElem?_eq_getElem hil⟩
                have kp0 : ∀ N, (wz.drewN N).cell? ⟨g, i * 2, none⟩ = some (.int .i64 pc) := fun N => row_cart OZ.out.may hp
                have kp1 : ∀ N, (wz.drewN N).cell? ⟨g, i * 2 + 1, none⟩ = some (.int .i64 pr) := fun N => row_room OZ.out.may hp
                cases hin : inL (S.take t) pc with
                | true =>
                  have b2 := Lib.hid (hbest.skip hp (by unfold inL at hin; simpa using hin))
                  have HINC := Lib.hid (fun N' : Nat => (show Calls Try.prog 19 #[.slice (some ⟨go_, 0, none⟩) t cco, .int .i64 pc] (wz.drewN N') fun e w' => e = .returned (.bool (inL (S.take t) pc)) ∧ wz.drewN N' = w' from refIn _ t cco (S.take t) pc _ (IN.out N') htm))
                  rw [hin] at HINC
                  clear hbest hp hin
                  go_wp2_with fail
                  go_quiet ((go_at_call 19; exact quiet_eq (HINC.out _)))
                  go_wp2_with fail
                  go_roundw
                  case rel => exact ⟨i + 1, at_, hil, by go_num, rfl, OZ.out.drewN _, b2.out⟩
                  case measure => simp [intOf]; omega
                | false =>
                  have hnO : pc ∉ S.take t := by unfold inL at hin; simpa using hin
                  have HINC := Lib.hid (fun N' : Nat => (show Calls Try.prog 19 #[.slice (some ⟨go_, 0, none⟩) t cco, .int .i64 pc] (wz.drewN N') fun e w' => e = .returned (.bool (inL (S.take t) pc)) ∧ wz.drewN N' = w' from refIn _ t cco (S.take t) pc _ (IN.out N') htm))
                  rw [hin] at HINC
                  clear hin
                  by_cases hat : at_ = -1
                  · subst hat
                    have b2 := Lib.hid (hbest.first hp hnO)
                    clear hbest hp hnO
                    go_wp2_with fail
                    go_quiet ((go_at_call 19; exact quiet_eq (HINC.out _)))
                    go_wp2_with fail
                    go_roundw
                    case rel => exact ⟨i + 1, i, hil, by go_num, rfl, OZ.out.drewN _, b2.out⟩
                    case measure => simp [intOf]; omega
                  · obtain ⟨a, ⟨ac, ar⟩, rfl, hal, ha⟩ : ∃ (a : Nat) (pa : Int × Int), at_ = a ∧ a < E.length ∧ E[a]? = some pa := by
                      rcases hbest with ⟨h, _⟩ | ⟨a, pa, h1, h2, h3, _⟩
                      · exact absurd h hat
                      · exact ⟨a, pa, h1, by omega, h3⟩
                    have ka0 : ∀ N, (wz.drewN N).cell? ⟨g, a * 2, none⟩ = some (.int .i64 ac) := fun N => row_cart OZ.out.may ha
                    have ka1 : ∀ N, (wz.drewN N).cell? ⟨g, a * 2 + 1, none⟩ = some (.int .i64 ar) := fun N => row_room OZ.out.may ha
                    have hlt : ltE E pc ac = (decide (ar < pr) || (pr == ar && decide (pc < ac))) := by
                      have v1 := valE_mem HND.out (List.mem_of_getElem? hp)
                      have v2 := valE_mem HND.out (List.mem_of_getElem? ha)
                      simp only at v1 v2
                      unfold ltE
                      rw [v1, v2]
                    have da : decide ((a : Int) < 0) = false := by simp
                    have hne : i ≠ a := by
                      rcases hbest with ⟨h, _⟩ | ⟨a', pa, h1, h2, h3, _⟩
                      · omega
                      · omega
                    have hcne : pc ≠ ac := fun e => by
                      have hn := HND.out
                      rw [List.nodup_iff_pairwise_ne, List.pairwise_iff_getElem] at hn
                      obtain ⟨hi', hie⟩ := List.getElem?_eq_some_iff.1 hp
                      obtain ⟨ha', hae⟩ := List.getElem?_eq_some_iff.1 ha
                      rcases Nat.lt_or_gt_of_ne hne with h | h
                      · exact hn i a (by simpa using hi') (by simpa using ha') h (by simp [hie, hae, e])
                      · exact hn a i (by simpa using ha') (by simpa using hi') h (by simp [hie, hae, e])
                    by_cases c1 : ar < pr
                    · have d1 : decide (ar < pr) = true := by simpa using c1
                      have b2 := Lib.hid (hbest.better ha hp hnO (by rw [hlt, d1]; rfl))
                      clear hbest hp ha hnO hlt hne hcne hat c1
                      go_wp2_with fail
                      go_quiet ((go_at_call 19; exact quiet_eq (HINC.out _)))
                      go_wp2_with fail
                      go_roundw
                      case rel => exact ⟨i + 1, i, hil, by go_num, rfl, OZ.out.drewN _, b2.out⟩
                      case measure => simp [intOf]; omega
                    · have d1 : decide (ar < pr) = false := by simpa using c1
                      by_cases c2 : pr = ar
                      · have d2 : (pr == ar) = true := by simpa using c2
                        by_cases c3 : pc < ac
                        · have d3 : decide (pc < ac) = true := by simpa using c3
                          have b2 := Lib.hid (hbest.better ha hp hnO (by rw [hlt, d1, d2, d3]; rfl))
                          clear hbest hp ha hnO hlt hne hcne hat c1 c2 c3
                          go_wp2_with fail
                          go_quiet ((go_at_call 19; exact quiet_eq (HINC.out _)))
                          go_wp2_with fail
                          go_roundw
                          case rel => exact ⟨i + 1, i, hil, by go_num, rfl, OZ.out.drewN _, b2.out⟩
                          case measure => simp [intOf]; omega
                        · have d3 : decide (pc < ac) = false := by simpa using c3
                          have b2 := Lib.hid (hbest.worse ha hp hcne (by rw [hlt, d1, d2, d3]; rfl))
                          clear hbest hp ha hnO hlt hne hcne hat c1 c2 c3
                          go_wp2_with fail
                          go_quiet ((go_at_call 19; exact quiet_eq (HINC.out _)))
                          go_wp2_with fail
                          go_roundw
                          case rel => exact ⟨i + 1, a, hil, by go_num, rfl, OZ.out.drewN _, b2.out⟩
                          case measure => simp [intOf]; omega
                      · have d2 : (pr == ar) = false := by simpa using c2
                        have b2 := Lib.hid (hbest.worse ha hp hcne (by rw [hlt, d1, d2]; rfl))
                        clear hbest hp ha hnO hlt hne hcne hat c1 c2
                        go_wp2_with fail
                        go_quiet ((go_at_call 19; exact quiet_eq (HINC.out _)))
                        go_wp2_with fail
                        go_roundw
                        case rel => exact ⟨i + 1, a, hil, by go_num, rfl, OZ.out.drewN _, b2.out⟩
                        case measure => simp [intOf]; omega
              · have di : decide (i < E.length) = false := by simpa using hil
                obtain rfl : i = E.length := by omega
                obtain ⟨a, ⟨ac, ar⟩, rfl, hal, ha, hSt⟩ := best_next HND.out HS.out (by omega) hbest
                have ka0 : wz.cell? ⟨g, a * 2, none⟩ = some (.int .i64 ac) := row_cart OZ.out.may ha
                have hgz : g < wz.heap.size := (OZ.out.may.lt g rfl).2
                have hgo := OZ.out.out.lt go_ rfl
                have hbz := OZ.out.below.size
                have hgne : g ≠ go_ := by
                  obtain ⟨c1, h1⟩ := own_blk OZ.out.may (g := g) rfl
                  obtain ⟨c2, h2⟩ := own_blk OZ.out.out (g := go_) rfl
                  exact blk_ne h1 h2 (by decide)
                have etk : S.take (t + 1) = S.take t ++ [ac] := by rw [List.take_add_one, hSt]; rfl
                have ETK := Lib.hid etk
                clear hbest ha hSt etk
                go_wp2_with (
                  (at_builtin
                   refine wpList_append_form _ rfl (.tmp 137) (.tmp 143) 23 rfl w.heap.size 3 j0 _ 1 8 Try.underlying23 hj0 hy0 hy1 hy2 rfl (by omega) _ t (intVs (S.take t)) rfl (by exact OZ.out.out.alloc _) (some ⟨wz.heap.size, 0, none⟩) 1 1 [.int .i64 ac] rfl rfl (fun e => by cases e) (by exact src_new _ _ _ _) (by intro u hu; simp only [List.mem_cons, List.not_mem_nil, or_false] at hu; subst hu; rfl) (by omega) (by simp only [maxLen]; omega) (by omega) (by simp; omega) ?_
                   intro g2 cap2 w4 hown4 hg4 hat4 hlt4
                   have RW4 := Lib.hid hown4
                   have G4 := Lib.hid hg4
                   clear hown4 hg4 hat4))
                go_roundw
                case rel =>
                  refine ⟨t + 1, g2, cap2, htq, rfl, ?_, ?_, (OZ.out.below.alloc OZ.out.below.size _).grown G4.out (by simp; omega) (fun q hq => by have h : go_ = q := Option.some.inj hq; omega)⟩
                  · rw [ETK.out, intVs, List.map_append]; exact RW4.out
                  · exact own_of_eq OZ.out.may (fun q hq => by
                      have h : g = q := Option.some.inj hq
                      subst h
                      exact (G4.out.block _ (by simp; omega) (fun e => hgne (by have h : g = go_ := Option.some.inj e; exact h))).trans (Below.heap_alloc _ _ _ hgz))
                case measure => simp [sliceLen]; omega
          · have dt : decide (t < q) = false := by simpa using htq
            obtain rfl : t = q := by omega
            go_wp2_with fail
            go_ret2
            exact ⟨OM.out.below, .inr ⟨t, go_, cco, rfl, by rw [HE0.out]; omega, rfl, own_ints OM.out.out (by rw [List.length_take]; omega)⟩⟩
end Go.Proofs.Ytjeccacacecdfaa
