/- The state of the loop over copies that picks the best of each key. No condition beyond those that each theorem states. -/
import Derived.Test.YthceidacmeadkaaSA
namespace Go.Proofs.Ythceidacmeadkaa
open Go.RowKit Go.Maps Go.WideMaps
attribute [local go_sem] Oper.semAt_some

noncomputable abbrev strK := strKey (P := Try.prog) Try.underlying9
def sliceE (e : CopyE) : Value := .slice (some ⟨e.g, 0, none⟩) (slotsB e.b) (slotsB e.b)
def encC (L : List FoundP) (e : CopyE) : Str × Value := (e.b.key, .agg (choiceCells e.b (sliceE e) (leastOf L e.b)))
def zeroC : Value := .agg #[.string ⟨#[]⟩, .int .i64 0, .int .i64 0, .int .i64 0, .string ⟨#[]⟩, .slice none 0 0, .int .i64 0]
theorem zeroCh (w : World) : (zeroValue 62).run Try.prog w = .ok zeroC w := by kernel_rfl
structure CoreL (hs mb cb rb N Nt : Nat) (L : List FoundP) (CL : List CopyE) (left : BlobV → Bool) (M : List CopyE) (w W : World) : Prop where
  rng : RangeAt (blobKey ()) (.slice none 0 0) W cb rb N (CL.map entV) left
  sub : ∀ e ∈ M, e ∈ CL ∧ left e.b = false
  nd : M.Nodup
  all : ∀ e ∈ CL, left e.b = true ∨ e ∈ M
  tombs : MapAt strK (.int .i64 0) W hs Nt (encM (goneM L))
  rows : ∀ e ∈ CL, cb < e.g ∧ e.g < rb ∧ Blk W e.g 34 (placeVals (placesOf L e.b)).toArray
  base : Below hs w W
theorem CoreL.kept {hs mb cb rb N Nt : Nat} {L : List FoundP} {CL M : List CopyE} {left : BlobV → Bool} {w W W' : World} {row : Option Nat} (h : CoreL hs mb cb rb N Nt L CL left M w W) (hg : W.grownBy W' row) (hc : some cb ≠ row) (hr : some rb ≠ row) (ht : some hs ≠ row) (hrow : ∀ q, row = some q → hs ≤ q ∧ q < cb) : CoreL hs mb cb rb N Nt L CL left M w W' :=
  ⟨h.rng.kept hg hc hr, h.sub, h.nd, h.all, h.tombs.of_eq (hg.block _ h.tombs.lt ht), fun e he => ⟨(h.rows e he).1, (h.rows e he).2.1, (h.rows e he).2.2.grown hg fun hq => by have h1 := (hrow _ hq).2; have h2 := (h.rows e he).1; omega⟩, h.base.grown hg (Nat.le_of_lt h.tombs.lt) fun q hq => (hrow q hq).1⟩
theorem grown_of_below {W W' : World} (h : Below W.heap.size W W') : W.grownBy W' none := ⟨h.os, h.tape, h.output, h.size, fun k hk _ => h.block k hk⟩
theorem CoreL.below {hs mb cb rb N Nt : Nat} {L : List FoundP} {CL M : List CopyE} {left : BlobV → Bool} {w W W' : World} (h : CoreL hs mb cb rb N Nt L CL left M w W) (hb : Below W.heap.size W W') : CoreL hs mb cb rb N Nt L CL left M w W' :=
  h.kept (grown_of_below hb) (by simp) (by simp) (by simp) (fun q hq => by cases hq)
theorem CoreL.next {hs mb cb rb N Nt : Nat} {L : List FoundP} {CL M : List CopyE} {left : BlobV → Bool} {w W W' : World} {k : BlobV} {v : Value} (h : CoreL hs mb cb rb N Nt L CL left M w W) (hcb : cb < rb) (hhs : hs < cb) (hkv : (k, v) ∈ CL.map entV) (hl : left k = true) (hrg : RangeAt (blobKey ()) (.slice none 0 0) W' cb rb N (CL.map entV) fun x => left x && !decide (x = k)) (hg : W.grownBy W' (some rb)) :
    ∃ e ∈ CL, e ∉ M ∧ k = e.b ∧ v = sliceE e ∧ CoreL hs mb cb rb N Nt L CL (fun x => left x && !decide (x = k)) (M ++ [e]) w W' := by
  obtain ⟨e, he, hev⟩ := List.mem_map.1 hkv
  injection hev with h1 h2
  have hnd := h.rng.map.nd
  rw [List.map_map] at hnd
  have hnM : e ∉ M := fun hc => by
    have h3 := (h.sub e hc).2
    rw [h1, hl] at h3
    cases h3
  refine ⟨e, he, hnM, h1.symm, h2.symm, hrg, fun x hx => ?_, ?_, fun x hx => ?_, h.tombs.of_eq (hg.block _ h.tombs.lt (fun e => by have := Option.some.inj e; omega)), fun x hx => ⟨(h.rows x hx).1, (h.rows x hx).2.1, (h.rows x hx).2.2.grown hg fun hq => by have h4 := Option.some.inj hq; have h5 := (h.rows x hx).2.1; omega⟩, h.base.grown hg (Nat.le_of_lt h.tombs.lt) fun q hq => by have h4 := Option.some.inj hq; omega⟩
  · rcases List.mem_append.1 hx with hx | hx
    · exact ⟨(h.sub x hx).1, by rw [(h.sub x hx).2]; rfl⟩
    · rw [List.mem_singleton] at hx
      subst hx
      exact ⟨he, by rw [h1]; simp⟩
  · rw [List.nodup_append]
    exact ⟨h.nd, by simp, fun a ha b hb hab => hnM (by rw [List.mem_singleton] at hb; rw [← hb, ← hab]; exact ha)⟩
  · rcases h.all x hx with h3 | h3
    · by_cases hxk : x.b = k
      · right
        have : x = e := inj_of_nodup (f := CopyE.b) hnd hx he (hxk.trans h1.symm)
        rw [this]
        simp
      · left
        rw [h3]
        simp [hxk]
    · exact .inr (List.mem_append_left _ h3)
theorem CoreL.met {hs mb cb rb N Nt : Nat} {L : List FoundP} {CL M : List CopyE} {left : BlobV → Bool} {w W : World} (h : CoreL hs mb cb rb N Nt L CL left M w W) (h0 : ∀ k, hasL (CL.map entV) k = true → left k = false) : ∀ e ∈ CL, e ∈ M := fun e he => by
  rcases h.all e he with h1 | h1
  · rw [h0 e.b ((has_ent CL e.b).2 ⟨e, he, rfl⟩)] at h1
    cases h1
  · exact h1
/-- The best ones, in their map. -/
structure BestAt (mb n : Nat) (L : List FoundP) (BL : List CopyE) (W : World) : Prop where
  ex : ∃ NB, MapAt strK zeroC W mb NB (BL.map (encC L)) ∧ NB ≤ n
theorem BestAt.of_eq {mb n : Nat} {L : List FoundP} {BL : List CopyE} {W W' : World} (h : BestAt mb n L BL W) (he : W'.heap[mb]? = W.heap[mb]?) : BestAt mb n L BL W' := by
  obtain ⟨NB, h1, h2⟩ := h
  exact ⟨NB, h1.of_eq he, h2⟩
theorem BestAt.mono {mb n m : Nat} {L : List FoundP} {BL : List CopyE} {W : World} (h : BestAt mb n L BL W) (hm : n ≤ m) : BestAt mb m L BL W := by
  obtain ⟨NB, h1, h2⟩ := h
  exact ⟨NB, h1, by omega⟩
theorem BestAt.lt {mb n : Nat} {L : List FoundP} {BL : List CopyE} {W : World} (h : BestAt mb n L BL W) : mb < W.heap.size := by
  obtain ⟨NB, h1, h2⟩ := h
  exact h1.lt
theorem BestAt.keys {mb n : Nat} {L : List FoundP} {BL : List CopyE} {W : World} (h : BestAt mb n L BL W) : (BL.map fun e => e.b.key).Nodup := by
  obtain ⟨NB, h1, h2⟩ := h
  have h3 := h1.nd
  rw [List.map_map] at h3
  exact h3
theorem has_enc (L : List FoundP) (BL : List CopyE) (k : Str) : hasL (BL.map (encC L)) k = true ↔ ∃ e ∈ BL, e.b.key = k := by
  rw [hasL_mem, List.map_map, List.mem_map]
  rfl
theorem get_enc {L : List FoundP} {BL : List CopyE} (hnd : (BL.map fun e => e.b.key).Nodup) {e : CopyE} (he : e ∈ BL) : getL zeroC (BL.map (encC L)) e.b.key = (encC L e).2 :=
  getL_at zeroC (by rw [List.map_map]; exact hnd) (List.mem_map_of_mem (f := encC L) he)
theorem put_enc (L : List FoundP) (BL : List CopyE) (e : CopyE) : putL (BL.map (encC L)) e.b.key (encC L e).2 = ((BL.filter fun x => !decide (x.b.key = e.b.key)) ++ [e]).map (encC L) := by
  unfold putL delL
  rw [List.map_append, List.filter_map]
  rfl
theorem filter_none {BL : List CopyE} {k : Str} (h : ∀ x ∈ BL, x.b.key ≠ k) : (BL.filter fun x => !decide (x.b.key = k)) = BL := by
  rw [List.filter_eq_self]
  intro x hx
  simpa using h x hx
theorem sClip (B : Option Addr) (n c : Nat) (w : World) (hn : n ≤ c) (hc : c ≤ maxLen) (hB : (B = none ∧ n = 0 ∧ c = 0) ∨ ∃ g, B = some ⟨g, 0, none⟩) :
    Calls Try.prog 25 #[.slice B n c] w fun e w' => e = .returned (.slice B n n) ∧ w = w' := by
  have hc63 : c ≤ 9223372036854775807 := by simp only [maxLen] at hc; exact hc
  clear hc
  rcases hB with ⟨rfl, rfl, rfl⟩ | ⟨g, rfl⟩
  · go_enter Try.func25, Try.ntmps25
    go_wp2
    go_ret
    exact ⟨rfl, rfl⟩
  · go_enter Try.func25, Try.ntmps25
    go_wp2
    go_ret
    exact ⟨rfl, rfl⟩
def entCells (e : CopyE) : List Value := [strV e.b.key, .int .i64 e.b.gen, .int .i64 e.b.size, strV e.b.sum, .slice (some ⟨e.g, 0, none⟩) (slotsB e.b) (slotsB e.b)]
def entVals (l : List CopyE) : List Value := l.flatMap entCells
theorem entVals_snoc (L : List CopyE) (q : CopyE) : entVals (L ++ [q]) = entVals L ++ entCells q := by simp [entVals]
theorem entCells_one (q : CopyE) : ∀ u ∈ entCells q, u.oneCell' = true := by
  intro u hu
  simp only [entCells, List.mem_cons, List.not_mem_nil, or_false] at hu
  rcases hu with rfl | rfl | rfl | rfl | rfl <;> rfl
theorem entVals_len (L : List CopyE) : (entVals L).length = L.length * 5 := flat_length (k := 5) (fun _ => rfl) L
theorem own_form {w : World} {base : Nat} {t : TypeId} {size n : Nat} {v : Value} {xs : List Value} (h : w.ownsRow base t size v n xs) : ∃ B c, v = .slice B n c ∧ n ≤ c ∧ c ≤ maxLen ∧ ((B = none ∧ n = 0 ∧ c = 0) ∨ ∃ g, B = some ⟨g, 0, none⟩) := by
  rcases h.2 with ⟨e, h0⟩ | ⟨g, cap, cur, e, _, _, h3, h4, _⟩
  · subst h0
    exact ⟨none, 0, e, Nat.le_refl _, Nat.zero_le _, .inl ⟨rfl, rfl, rfl⟩⟩
  · exact ⟨_, cap, e, h3, h4, .inr ⟨g, rfl⟩⟩
theorem entC_info : (Try.prog.info? 32).map (fun i => (i.zero, i.size, i.bytes)) = some (some (.agg #[.string ⟨#[]⟩, .int .i64 0, .int .i64 0, .string ⟨#[]⟩, .slice none 0 0]), 5, 72) := by kernel_rfl
/-- The second loop: what of the best ones was met. -/
structure MetB (BL P : List CopyE) (left : Str → Bool) : Prop where
  sub : ∀ e ∈ P, e ∈ BL ∧ left e.b.key = false
  nd : P.Nodup
  all : ∀ e ∈ BL, left e.b.key = true ∨ e ∈ P
theorem MetB.start {L : List FoundP} {BL : List CopyE} : MetB BL [] (hasL (BL.map (encC L))) := ⟨fun e he => (by cases he), List.nodup_nil, fun e he => .inl ((has_enc L BL e.b.key).2 ⟨e, he, rfl⟩)⟩
theorem MetB.step {BL P : List CopyE} {left : Str → Bool} (h : MetB BL P left) (hnd : (BL.map fun e => e.b.key).Nodup) {e : CopyE} (he : e ∈ BL) (hl : left e.b.key = true) : MetB BL (P ++ [e]) fun x => left x && !decide (x = e.b.key) := by
  have hnP : e ∉ P := fun hc => by
    have h3 := (h.sub e hc).2
    rw [hl] at h3
    cases h3
  refine ⟨fun x hx => ?_, ?_, fun x hx => ?_⟩
  · rcases List.mem_append.1 hx with hx | hx
    · exact ⟨(h.sub x hx).1, by rw [(h.sub x hx).2]; rfl⟩
    · rw [List.mem_singleton] at hx
      subst hx
      exact ⟨he, by simp⟩
  · rw [List.nodup_append]
    exact ⟨h.nd, by simp, fun a ha b hb hab => hnP (by rw [List.mem_singleton] at hb; rw [← hb, ← hab]; exact ha)⟩
  · rcases h.all x hx with h3 | h3
    · by_cases hxk : x.b.key = e.b.key
      · right
        have : x = e := inj_of_nodup (f := fun e : CopyE => e.b.key) hnd hx he hxk
        rw [this]
        simp
      · left
        rw [h3]
        simp [hxk]
    · exact .inr (List.mem_append_left _ h3)
theorem MetB.perm {L : List FoundP} {BL P : List CopyE} {left : Str → Bool} (h : MetB BL P left) (hnd : (BL.map fun e => e.b.key).Nodup) (h0 : ∀ k, hasL (BL.map (encC L)) k = true → left k = false) : P.Perm BL := by
  have hb : BL.Nodup := by
    unfold List.Nodup at *
    rw [List.pairwise_map] at hnd
    exact hnd.imp fun h e => h (by rw [e])
  refine (List.perm_ext_iff_of_nodup h.nd hb).2 fun e => ⟨fun he => (h.sub e he).1, fun he => ?_⟩
  rcases h.all e he with h1 | h1
  · rw [h0 e.b.key ((has_enc L BL e.b.key).2 ⟨e, he, rfl⟩)] at h1
    cases h1
  · exact h1
end Go.Proofs.Ythceidacmeadkaa
