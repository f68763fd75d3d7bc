/- The generations that were begun, collected and sorted. No condition beyond those that each theorem states. -/
import Derived.Test.YtmkccblcmiflfaaKC12
import Derived.Maps.RangeWalk
namespace Go.Proofs.Ytmkccblcmiflfaa
open Go.RowKit Go.Maps Go.WideMaps

def genCells (q : Str × Int) : List Value := [.int .i64 4, encStr q.1, .int .i64 q.2, .int .i64 0, .slice none 0 0, encStr [], .int .i64 0, .slice none 0 0]
def genVals (l : List (Str × Int)) : List Value := l.flatMap genCells
theorem genVals_snoc (L : List (Str × Int)) (q : Str × Int) : genVals (L ++ [q]) = genVals L ++ genCells q := by simp [genVals]
/-- What has been met of a map's entries. -/
structure Met (L M : List (Str × Int)) (left : Lit → Bool) : Prop where
  nd : (M.map Prod.fst).Nodup
  met : ∀ q ∈ M, q ∈ L ∧ left (.string q.1) = false
  all : ∀ q ∈ L, left (.string q.1) = true ∨ q ∈ M
  has : ∀ k, left (.string k) = true → hasL L k = true
theorem Met.start {L : List (Str × Int)} {left : Lit → Bool} (h : ∀ k, left (.string k) = hasL L k) : Met L [] left :=
  ⟨by simp, by simp, fun q hq => .inl (by rw [h]; exact hasL_mem.2 (List.mem_map.2 ⟨q, hq, rfl⟩)), fun k hk => by rw [← h]; exact hk⟩
theorem sameKey_str (a b : Str) : (Lit.string a).sameKey (.string b) = decide (a = b) := by
  by_cases h : a = b
  · subst h
    rw [decide_eq_true rfl]
    exact WideAt.sameKey_self (show WideAt.IsKeyLit (.string a) from trivial)
  · rw [decide_eq_false h]
    exact sameKey_ne (fun e => h (by injection e))
theorem Met.step {L M : List (Str × Int)} {left : Lit → Bool} (hL : (L.map Prod.fst).Nodup) (h : Met L M left) {k : Str} {g : Int} (hq : (k, g) ∈ L) (hl : left (.string k) = true) : Met L (M ++ [(k, g)]) (fun z => left z && !z.sameKey (.string k)) := by
  refine ⟨?_, fun q hq' => ?_, fun q hq' => ?_, fun k' hk' => h.has k' (by simp only [Bool.and_eq_true] at hk'; exact hk'.1)⟩
  · rw [List.map_append, List.nodup_append]
    refine ⟨h.nd, by simp, fun a ha b hb e => ?_⟩
    have hb : b = k := by simpa using hb
    subst hb
    subst e
    obtain ⟨q, hqm, rfl⟩ := List.mem_map.1 ha
    rw [(h.met q hqm).2] at hl
    cases hl
  · rcases List.mem_append.1 hq' with hq' | hq'
    · exact ⟨(h.met q hq').1, by rw [(h.met q hq').2]; rfl⟩
    · have e : q = (k, g) := by simpa using hq'
      subst e
      exact ⟨hq, by rw [sameKey_str]; simp⟩
  · rcases h.all q hq' with h1 | h1
    · by_cases hk : q.1 = k
      · right
        have e1 := getL_at (z := (0 : Int)) hL (k := q.1) (v := q.2) hq'
        have e2 := getL_at (z := (0 : Int)) hL (k := k) (v := g) hq
        rw [hk] at e1
        have : q = (k, g) := Prod.ext hk (e1.symm.trans e2)
        rw [this]
        simp
      · left
        rw [h1, sameKey_str]
        simp [hk]
    · exact .inr (List.mem_append_left _ h1)
theorem Met.perm {L M : List (Str × Int)} {left : Lit → Bool} (hL : (L.map Prod.fst).Nodup) (h : Met L M left) (h0 : ∀ kl, left kl = false) : M.Perm L := by
  have nd : ∀ {X : List (Str × Int)}, (X.map Prod.fst).Nodup → X.Nodup := fun {X} hX => by
    unfold List.Nodup at *
    rw [List.pairwise_map] at hX
    exact hX.imp fun h e => h (by rw [e])
  refine (List.perm_ext_iff_of_nodup (nd h.nd) (nd hL)).2 fun q => ⟨fun hq => (h.met q hq).1, fun hq => ?_⟩
  rcases h.all q hq with h1 | h1
  · rw [h0] at h1; cases h1
  · exact h1
theorem encStr_inj {a b : Str} (h : encStr a = encStr b) : b = a := by
  unfold encStr at h
  injection h with h
  injection h with h
  have := congrArg Array.toList h
  simpa using this.symm
theorem anyE_pair {c : Value} {a : DataW Value} {b : List MemPlace} (h : anyE c = some (a, b)) : a = .held c := by
  simp only [anyE, Option.some.injEq, Prod.mk.injEq] at h
  exact h.1.symm
theorem begun_at {L : List (Str × Int)} {x : Str} (h : hasL L x = true) : ∃ g, (x, g) ∈ L ∧ getL (.int .i64 0) (begunVals L) x = .int .i64 g := by
  have h' : hasL (begunVals L) x = true := (hasL_map (fun g : Int => Value.int .i64 g) L x).trans h
  obtain ⟨q, hq, hqe⟩ := List.mem_map.1 (getL_mem (.int .i64 0) h')
  obtain ⟨k, g⟩ := q
  injection hqe with h1 h2
  subst h1
  exact ⟨g, hq, h2.symm⟩
theorem genCells_one (q : Str × Int) : ∀ u ∈ genCells q, u.oneCell' = true := by
  intro u hu
  simp only [genCells, List.mem_cons, List.not_mem_nil, or_false] at hu
  rcases hu with rfl | rfl | rfl | rfl | rfl | rfl | rfl | rfl <;> rfl
section
set_option maxHeartbeats 4000000
set_option maxRecDepth 8000
/-- The loop of gens, up to the sort: what was begun, in some order. -/
theorem cGens0 (F : Nat → Prop) (p N : Nat) (C : CV) (w : World) (h : CatAt F w p N C) (hN : N ≤ 100000) (Post : Ending → World → Prop)
    (hsort : ∀ (v : Value) (n : Nat) (M : List (Str × Int)) (w1 : World), M.Perm C.begun → M.length = n → n ≤ N → w1.ownsRow (w.heap.size + 1) 26 8 v n (genVals M) → Below w.heap.size w w1 →
      Calls Try.prog 41 #[v, .func (.func 42) #[] #[]] w1 fun e w2 => e = .returned (.tuple #[]) ∧ Post (.returned v) w2) :
    Calls Try.prog 22 #[.pointer (some ⟨p, 0, none⟩)] w Post := by
  obtain ⟨sv, tv, SR, ER, be, bb, br, hr⟩ := h
  have c2 : w.cell? ⟨p, 2, none⟩ = some (.map (some bb)) := hr.blk.cell 2
  obtain ⟨⟨D, hown, hhas, hat0⟩, hnd⟩ := hr.begs
  have HH := Lib.hid hhas
  have HAT := Lib.hid hat0
  have hnd' : (C.begun.map Prod.fst).Nodup := by
    have h := hnd
    unfold begunVals at h
    rw [List.map_map] at h
    exact h
  have HND := Lib.hid hnd'
  have HBL := Lib.hid (show ∀ k, hasL (begunVals C.begun) k = hasL C.begun k from fun k => hasL_map _ _ _)
  have hbblt := hr.begs.lt
  have hsz : Maps.size D ≤ N := hown.size_le
  have OW := Lib.hid hown
  obtain ⟨i0, hi0, hz0, hz1, hz2⟩ := info_parts noteC_info
  have HS := Lib.hid hsort
  clear hr hown hhas hat0 hnd hnd' hsort
  go_enter Try.func22, Try.ntmps22
  go_wp2_with (first
    | (at_range; refine wpList_range_own _ rfl _ 56 rfl 9 3 skey.law Try.underlying56 _ bb N _ rfl OW.out ?_; intro w0 hrg0 hg0 hs0)
    | fail)
  go_frame
  go_loopw [3] (fun v wr => ∃ (left : Lit → Bool) (cnt n : Nat) (M : List (Str × Int)), wr.ranges Try.prog 9 anyE bb w.heap.size N D left cnt ∧ Met C.begun M left ∧ M.length = n ∧ n + cnt ≤ Maps.size D ∧ wr.ownsRow (w.heap.size + 1) 26 8 v n (genVals M) ∧ Below w.heap.size w wr)
    (fun _ wr => wr.rangeLeft bb w.heap.size)
  case atStart => exact ⟨_, _, 0, [], hrg0, Met.start (fun k => (HH.out k).trans (HBL.out k)), rfl, by omega, World.ownsRow_nil _ _ _ _, ⟨hg0.os, hg0.tape, hg0.output, hg0.size, fun k hk => hg0.block k hk (by simp)⟩⟩
  case round =>
    obtain ⟨left, cnt, n, M, hrg, hmet, hMn, hcnt, hrow, hbl⟩ := hrel
    obtain ⟨wo, rfl⟩ : ∃ wo : World, wo = wr := ⟨_, rfl⟩
    have MT := Lib.hid hmet
    have HMN := Lib.hid hMn
    have RW := Lib.hid hrow
    have BL := Lib.hid hbl
    have hzo := hbl.size
    have hzr := hrg.lt
    have HRG := Lib.hid hrg
    obtain ⟨A1, k1, rfl, hn1, hc1, hA1⟩ := own_form hrow
    clear hmet hMn hrow hbl
    go_wp2_with (first
      | (at_next; refine wpList_next_ranges (α := Str) (β := Value) _ rfl _ rfl 9 skey.law anyE encStr id (fun key kl hk => by obtain ⟨x, hx, _⟩ := Maps.keyOf_str Try.underlying9 hk; exact ⟨x, hx⟩) (fun v y _ => ⟨v, rfl⟩) bb w.heap.size N D _ _ rfl HRG.out ?_ ?_)
      | fail)
    · intro _ hl0
      clear hrg
      go_wp2_with (go_at_call 41; refine (HS.out _ _ M _ (Met.perm HND.out MT.out hl0) HMN.out (by omega) RW.out BL.out).mono ?_; rintro e w2 ⟨rfl, hp⟩)
      exact hp
    · intro x c kl ya yb w1 cnt1 hkx hlx hc hat hrg1 hlt hg1 hs1 hen
      have hkl : kl = .string x := by
        obtain ⟨x', hx1, hx2, _⟩ := Maps.keyOf_str Try.underlying9 hkx
        rw [hx2, encStr_inj hx1]
      subst hkl
      have hy : ya = .held c := anyE_pair hc
      have hcv : c = getL (.int .i64 0) (begunVals C.begun) x := by
        have h1 := hat (.held (.int .i64 0))
        rw [hy] at h1
        have h2 := HAT.out x
        have h3 := h1.symm.trans h2
        injection h3
      have hhx := MT.out.has x hlx
      obtain ⟨g, hq, hge⟩ := begun_at hhx
      rw [hge] at hcv
      subst hcv
      have MT1 := Lib.hid (MT.out.step HND.out hq hlx)
      have RW1 := Lib.hid (own_of_eq RW.out (w' := w1) (fun g' hg' => hg1.block g' (RW.out.lt g' hg').2 (fun e => by have := (RW.out.lt g' hg').1; have e := Option.some.inj e; omega)))
      have RG1 := Lib.hid hrg1
      have BL1 := Lib.hid (BL.out.grown hg1 hzo (fun g' hg' => by have := Option.some.inj hg'; omega))
      have hz1' : w.heap.size + 1 ≤ w1.heap.size := by omega
      clear hat hc hy hhx hq hge hrg hrg1 hg1 hkx hs1
      go_wp2_with (
        (at_builtin
         refine wpList_append_src _ rfl (.tmp 16) (.tmp 20) 22 rfl (w.heap.size + 1) 26 i0 _ 8 112 Try.underlying22 hi0 hz0 hz1 hz2 rfl (by omega) _ _ _ rfl (by exact RW1.out.alloc _) (some ⟨w1.heap.size, 0, none⟩) 1 1 (genCells (x, g)) rfl rfl (fun e => by cases e) (by exact src_new _ _ _ _) (genCells_one _) (by simp only [maxLen]; omega) (by omega) (by simp; omega) ?_
         intro v' w2 hown2 hgr2 hat2
         have OW2 := Lib.hid hown2
         have RG2 := Lib.hid ((RG1.out.alloc _).kept hgr2 (fun e => by have := (RW1.out.lt _ e.symm).1; omega) (fun e => by have := (RW1.out.lt _ e.symm).1; omega))
         have HB2 := Lib.hid (((BL1.out.alloc (by omega) _).grown hgr2 (by simp; omega) (fun q hq => by have := (RW1.out.lt q hq).1; omega)))
         clear hown2 hgr2 hat2))
      go_roundw
      case rel => exact ⟨_, cnt1, n + 1, M ++ [(x, g)], RG2.out, MT1.out, by rw [List.length_append, HMN.out]; rfl, by omega, by rw [genVals_snoc]; exact OW2.out, HB2.out⟩
      case measure => rw [RG2.out.left_eq, HRG.out.left_eq]; exact hlt
end
end Go.Proofs.Ytmkccblcmiflfaa
