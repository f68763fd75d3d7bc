/- The document's best copies and the program's: the law ScanBest. No condition beyond those that each theorem states. -/
import Derived.Test.YthceidacmeadkaaU7
import Derived.Test.YthceidacmeadkaaSV
namespace Go.Proofs.Ythceidacmeadkaa
open Go.RowKit Go.Maps Go.WideMaps Go.Sort
attribute [local go_sem] Oper.semAt_some

structure EntR where
  key : Str
  e : EntV
  A : Option Addr
  n : Nat
  c : Nat
def EntR.cells (r : EntR) : List Value := [encStr r.key, .int .i64 r.e.gen, .int .i64 r.e.size, encStr r.e.sum, .slice r.A r.n r.c]
def ent5 (l : List EntR) : List Value := l.flatMap EntR.cells
theorem ent5_get {L : List EntR} {j : Nat} {r : EntR} (h : L[j]? = some r) (t : Nat) (ht : t < 5) : (ent5 L)[j * 5 + t]? = ([encStr r.key, .int .i64 r.e.gen, .int .i64 r.e.size, encStr r.e.sum, .slice r.A r.n r.c] : List Value)[t]? :=
  flat_get (vals := EntR.cells) (k := 5) (fun _ => rfl) h ht
/-- A row of entries of the document that is read. -/
structure EntsRdR (w : World) (A : Option Addr) (n : Nat) (EP : List EntR) : Prop where
  len : EP.length = n
  row : SrcAt w A n (ent5 EP)
  ok : ∀ r ∈ EP, EntRd w r.e r.A r.n
  max : n ≤ maxLen
theorem EntsRdR.below {w w' : World} {A : Option Addr} {n : Nat} {EP : List EntR} (h : EntsRdR w A n EP) (hb : Below w.heap.size w w') : EntsRdR w' A n EP := ⟨h.len, h.row.below hb, fun r hr => (h.ok r hr).below hb, h.max⟩
theorem ent_celR {w : World} {b off : Nat} {EP : List EntR} {j : Nat} {r : EntR} (hc : ∀ j u, (ent5 EP)[j]? = some u → w.cell? ⟨b, off + j, none⟩ = some u) (hr : EP[j]? = some r) (t : Nat) (ht : t < 5) {u : Value} (hu : ([encStr r.key, .int .i64 r.e.gen, .int .i64 r.e.size, encStr r.e.sum, .slice r.A r.n r.c] : List Value)[t]? = some u) : w.cell? ⟨b, off + j * 5 + t, none⟩ = some u := by
  rw [Nat.add_assoc]
  exact hc _ _ (by rw [ent5_get hr t ht, hu])
def entKR (r : EntR) : Str × EntV := (r.key, r.e)
section
set_option maxHeartbeats 4000000
set_option maxRecDepth 16000
theorem alike10r (A : Option Addr) (n c : Nat) (EP : List EntP) (A' : Option Addr) (n' c' : Nat) (EP' : List EntR) (w : World) (h : EntsRd w A n EP) (h' : EntsRdR w A' n' EP') :
    Calls Try.prog 13 #[.slice A n c, .slice A' n' c'] w fun e w' => e = .returned (.bool (decide (EP.map entK = EP'.map entKR))) ∧ Below w.heap.size w w' := by
  have H := Lib.hid h
  have H' := Lib.hid h'
  have h63 : n ≤ 9223372036854775807 := by have := h.max; simpa [maxLen] using this
  clear h h'
  by_cases hn : n = n'
  case neg =>
    have r := decide_eq_false (fun e : EP.map entK = EP'.map entKR => hn (by have h := congrArg List.length e; rw [List.length_map, List.length_map, H.out.len, H'.out.len] at h; exact h))
    have e1 : ((n : Int) != (n' : Int)) = true := by simp; omega
    clear hn
    go_enter Try.func13, Try.ntmps13
    go_wp2_with fail
    go_ret
    exact ⟨ret_b r.symm, Below.refl _ _⟩
  subst hn
  go_enter Try.func13, Try.ntmps13
  go_wp2_with fail
  go_loopw [5] (fun i wx => ∃ j : Nat, i = .int .i64 j ∧ j ≤ n ∧ (EP.map entK).take j = (EP'.map entKR).take j ∧ Below w.heap.size w wx) (fun i _ => n - (intOf i).toNat)
  case atStart => exact ⟨0, rfl, Nat.zero_le _, rfl, Below.refl _ _⟩
  case round =>
    obtain ⟨j, rfl, hj, heq, hbl⟩ := hrel
    have hz := hbl.size
    have BL := Lib.hid hbl
    have HEQ := Lib.hid heq
    by_cases hlt : j < n
    · have d1 : decide (j < n) = true := by simpa using hlt
      obtain ⟨r, hr⟩ : ∃ x, EP[j]? = some x := ⟨_, List.getElem?_eq_getElem (by rw [H.out.len]; exact hlt)⟩
      obtain ⟨r', hr'⟩ : ∃ y, EP'[j]? = some y := ⟨_, List.getElem?_eq_getElem (by rw [H'.out.len]; exact hlt)⟩
      obtain ⟨b, off, rfl, hc⟩ : ∃ b off, A = some ⟨b, off, none⟩ ∧ ∀ j u, (entPVals EP)[j]? = some u → wr.cell? ⟨b, off + j, none⟩ = some u := by
        rcases H.out.row.below hbl with ⟨h0, _⟩ | ⟨b, off, h1, h2⟩
        · omega
        · exact ⟨b, off, h1, h2⟩
      obtain ⟨b', off', rfl, hc'⟩ : ∃ b off, A' = some ⟨b, off, none⟩ ∧ ∀ j u, (ent5 EP')[j]? = some u → wr.cell? ⟨b, off + j, none⟩ = some u := by
        rcases H'.out.row.below hbl with ⟨h0, _⟩ | ⟨b, off, h1, h2⟩
        · omega
        · exact ⟨b, off, h1, h2⟩
      have x0 : wr.cell? ⟨b, off + j * 5, none⟩ = some (encStr r.key) := ent_cel hc hr 0 (by omega) rfl
      have x1 : wr.cell? ⟨b, off + j * 5 + 1, none⟩ = some (.int .i64 r.e.gen) := ent_cel hc hr 1 (by omega) rfl
      have x2 : wr.cell? ⟨b, off + j * 5 + 2, none⟩ = some (.int .i64 r.e.size) := ent_cel hc hr 2 (by omega) rfl
      have x3 : wr.cell? ⟨b, off + j * 5 + 3, none⟩ = some (encStr r.e.sum) := ent_cel hc hr 3 (by omega) rfl
      have x4 : wr.cell? ⟨b, off + j * 5 + 4, none⟩ = some (.slice r.B r.e.places.length r.e.places.length) := ent_cel hc hr 4 (by omega) rfl
      have y0 : wr.cell? ⟨b', off' + j * 5, none⟩ = some (encStr r'.key) := ent_celR hc' hr' 0 (by omega) rfl
      have y1 : wr.cell? ⟨b', off' + j * 5 + 1, none⟩ = some (.int .i64 r'.e.gen) := ent_celR hc' hr' 1 (by omega) rfl
      have y2 : wr.cell? ⟨b', off' + j * 5 + 2, none⟩ = some (.int .i64 r'.e.size) := ent_celR hc' hr' 2 (by omega) rfl
      have y3 : wr.cell? ⟨b', off' + j * 5 + 3, none⟩ = some (encStr r'.e.sum) := ent_celR hc' hr' 3 (by omega) rfl
      have y4 : wr.cell? ⟨b', off' + j * 5 + 4, none⟩ = some (.slice r'.A r'.n r'.c) := ent_celR hc' hr' 4 (by omega) rfl
      have RR := Lib.hid (show EntRd wr.drew r.e r.B r.e.places.length from ((H.out.ok r (List.mem_of_getElem? hr)).below hbl).below ⟨rfl, rfl, rfl, Nat.le_refl _, fun _ _ => rfl⟩)
      have RR' := Lib.hid (show EntRd wr.drew r'.e r'.A r'.n from ((H'.out.ok r' (List.mem_of_getElem? hr')).below hbl).below ⟨rfl, rfl, rfl, Nat.le_refl _, fun _ _ => rfl⟩)
      have HX := Lib.hid hr
      have HY := Lib.hid hr'
      have hlb : b < wr.heap.size := World.block_lt_of_cell? _ _ x0
      have hlb' : b' < wr.heap.size := World.block_lt_of_cell? _ _ y0
      clear hr hr' hbl hc hc' heq
      go_upto_region 6 with fail
      by_cases n1 : (r.key, r.e) = (r'.key, r'.e)
      case neg =>
        have f1 : decide ((r.key, r.e) = (r'.key, r'.e)) = false := decide_eq_false n1
        have q := decide_eq_false (fun e : EP.map entK = EP'.map entKR => n1 (by
          have h1 : (EP.map entK)[j]? = some (entK r) := by rw [List.getElem?_map, HX.out]; rfl
          have h2 : (EP'.map entKR)[j]? = some (entKR r') := by rw [List.getElem?_map, HY.out]; rfl
          rw [e, h2] at h1
          injection h1 with h1
          exact h1.symm))
        clear n1
        refine wp_region_held_drew (S := (fun w' => w'.cell? ⟨b, off + j * 5, none⟩ = some (encStr r.key) ∧ w'.cell? ⟨b, off + j * 5 + 1, none⟩ = some (.int .i64 r.e.gen) ∧ w'.cell? ⟨b, off + j * 5 + 2, none⟩ = some (.int .i64 r.e.size) ∧ w'.cell? ⟨b, off + j * 5 + 3, none⟩ = some (encStr r.e.sum) ∧ w'.cell? ⟨b, off + j * 5 + 4, none⟩ = some (.slice r.B r.e.places.length r.e.places.length) ∧ w'.cell? ⟨b', off' + j * 5, none⟩ = some (encStr r'.key) ∧ w'.cell? ⟨b', off' + j * 5 + 1, none⟩ = some (.int .i64 r'.e.gen) ∧ w'.cell? ⟨b', off' + j * 5 + 2, none⟩ = some (.int .i64 r'.e.size) ∧ w'.cell? ⟨b', off' + j * 5 + 3, none⟩ = some (encStr r'.e.sum) ∧ w'.cell? ⟨b', off' + j * 5 + 4, none⟩ = some (.slice r'.A r'.n r'.c))) (by kernel_rfl) ⟨x0, x1, x2, x3, x4, y0, y1, y2, y3, y4⟩ (fun hHeld => ?_)
        refine wpAnyH_take (i := 0) (v := ?vEan10) (take_list rfl) (by kernel_rfl) (by kernel_rfl) (by kernel_rfl) (fun _ _ _ h => h) (Or.inl ⟨by rfl, ?hyEan10⟩) (by assumption) ?restEan10
        case hyEan10 => (intro w hSw; (try dsimp only at hSw); go_simp <;> with_reducible rfl)
        try simp only [Act.put, List.setIfInBounds_toArray, List.set_cons_zero, List.set_cons_succ]
        refine wpAnyH_take (i := 1) (v := ?vEan11) (take_list rfl) (by kernel_rfl) (by kernel_rfl) (by kernel_rfl) (fun _ _ _ h => h) (Or.inl ⟨by rfl, ?hyEan11⟩) (by assumption) ?restEan11
        case hyEan11 => (intro w hSw; (try dsimp only at hSw); go_simp <;> with_reducible rfl)
        try simp only [Act.put, List.setIfInBounds_toArray, List.set_cons_zero, List.set_cons_succ]
        refine wpAnyH_take (i := 2) (v := ?vEan12) (take_list rfl) (by kernel_rfl) (by kernel_rfl) (by kernel_rfl) (fun _ _ _ h => h) (Or.inl ⟨by rfl, ?hyEan12⟩) (by assumption) ?restEan12
        case hyEan12 => (intro w hSw; (try dsimp only at hSw); go_simp <;> with_reducible rfl)
        try simp only [Act.put, List.setIfInBounds_toArray, List.set_cons_zero, List.set_cons_succ]
        refine wpAnyH_take (i := 3) (v := ?vEan13) (take_list rfl) (by kernel_rfl) (by kernel_rfl) (by kernel_rfl) (fun _ _ _ h => h) (Or.inl ⟨by rfl, ?hyEan13⟩) (by assumption) ?restEan13
        case hyEan13 => (intro w hSw; (try dsimp only at hSw); go_simp <;> with_reducible rfl)
        try simp only [Act.put, List.setIfInBounds_toArray, List.set_cons_zero, List.set_cons_succ]
        refine wpAnyH_take (i := 4) (v := ?vEan14) (take_list rfl) (by kernel_rfl) (by kernel_rfl) (by kernel_rfl) (fun _ _ _ h => h) (Or.inl ⟨by rfl, ?hyEan14⟩) (by assumption) ?restEan14
        case hyEan14 => (intro w hSw; (try dsimp only at hSw); go_simp <;> with_reducible rfl)
        try simp only [Act.put, List.setIfInBounds_toArray, List.set_cons_zero, List.set_cons_succ]
        refine wpAnyH_take (i := 5) (v := ?vEan15) (take_list rfl) (by kernel_rfl) (by kernel_rfl) (by kernel_rfl) (fun _ _ _ h => h) (Or.inl ⟨by rfl, ?hyEan15⟩) (by assumption) ?restEan15
        case hyEan15 => (intro w hSw; (try dsimp only at hSw); go_simp <;> with_reducible rfl)
        try simp only [Act.put, List.setIfInBounds_toArray, List.set_cons_zero, List.set_cons_succ]
        refine wpAnyH_take (i := 6) (v := ?vEan16) (take_list rfl) (by kernel_rfl) (by kernel_rfl) (by kernel_rfl) (fun _ _ _ h => h) (Or.inl ⟨by rfl, ?hyEan16⟩) (by assumption) ?restEan16
        case hyEan16 => (intro w hSw; (try dsimp only at hSw); go_simp <;> with_reducible rfl)
        try simp only [Act.put, List.setIfInBounds_toArray, List.set_cons_zero, List.set_cons_succ]
        refine wpAnyH_take (i := 7) (v := ?vEan17) (take_list rfl) (by kernel_rfl) (by kernel_rfl) (by kernel_rfl) (fun _ _ _ h => h) (Or.inl ⟨by rfl, ?hyEan17⟩) (by assumption) ?restEan17
        case hyEan17 => (intro w hSw; (try dsimp only at hSw); go_simp <;> with_reducible rfl)
        try simp only [Act.put, List.setIfInBounds_toArray, List.set_cons_zero, List.set_cons_succ]
        refine wpAnyH_ready (rs := [8]) (by kernel_rfl) (by simp) ?_
        refine AllReadyH.cons rfl (fun K hK => ?_) AllReadyH.nil
        go_simp
        go_wp2_with (go_at_call 32; refine (same10 r.key r.e r.B r.e.places.length r.e.places.length r'.key r'.e r'.A r'.n r'.c _ (by exact RR.out) (by exact RR'.out)).mono ?_; rw [f1]; rintro e w3 ⟨rfl, hb3⟩; have B3 := Lib.hid (show Below wr.heap.size wr w3 from ⟨hb3.os, hb3.tape, hb3.output, hb3.size, hb3.block⟩); clear hb3)
        clear hHeld
        refine hK.out _ _ ⟨(B3.out.cell (p := ⟨b, _, none⟩) hlb).trans x0, (B3.out.cell (p := ⟨b, _, none⟩) hlb).trans x1, (B3.out.cell (p := ⟨b, _, none⟩) hlb).trans x2, (B3.out.cell (p := ⟨b, _, none⟩) hlb).trans x3, (B3.out.cell (p := ⟨b, _, none⟩) hlb).trans x4, (B3.out.cell (p := ⟨b', _, none⟩) hlb').trans y0, (B3.out.cell (p := ⟨b', _, none⟩) hlb').trans y1, (B3.out.cell (p := ⟨b', _, none⟩) hlb').trans y2, (B3.out.cell (p := ⟨b', _, none⟩) hlb').trans y3, (B3.out.cell (p := ⟨b', _, none⟩) hlb').trans y4⟩ (fun hHeld => ?_)
        clear hK K
        refine wpAnyH_take (i := 9) (v := ?vEan19) (take_list rfl) (by kernel_rfl) (by kernel_rfl) (by kernel_rfl) (fun _ _ _ h => h) (Or.inl ⟨by rfl, ?hyEan19⟩) (by assumption) ?restEan19
        case hyEan19 => (intro w hSw; (try dsimp only at hSw); go_simp <;> with_reducible rfl)
        try simp only [Act.put, List.setIfInBounds_toArray, List.set_cons_zero, List.set_cons_succ]
        refine wpAnyH_done (by kernel_rfl) ?_ _
        go_wp2_with fail
        go_ret
        exact ⟨ret_b q.symm, BL.out.trans (B3.out.mono hz)⟩
      have f1 : decide ((r.key, r.e) = (r'.key, r'.e)) = true := decide_eq_true n1
      have HE1 := Lib.hid n1
      clear n1
      refine wp_region_held_drew (S := (fun w' => w'.cell? ⟨b, off + j * 5, none⟩ = some (encStr r.key) ∧ w'.cell? ⟨b, off + j * 5 + 1, none⟩ = some (.int .i64 r.e.gen) ∧ w'.cell? ⟨b, off + j * 5 + 2, none⟩ = some (.int .i64 r.e.size) ∧ w'.cell? ⟨b, off + j * 5 + 3, none⟩ = some (encStr r.e.sum) ∧ w'.cell? ⟨b, off + j * 5 + 4, none⟩ = some (.slice r.B r.e.places.length r.e.places.length) ∧ w'.cell? ⟨b', off' + j * 5, none⟩ = some (encStr r'.key) ∧ w'.cell? ⟨b', off' + j * 5 + 1, none⟩ = some (.int .i64 r'.e.gen) ∧ w'.cell? ⟨b', off' + j * 5 + 2, none⟩ = some (.int .i64 r'.e.size) ∧ w'.cell? ⟨b', off' + j * 5 + 3, none⟩ = some (encStr r'.e.sum) ∧ w'.cell? ⟨b', off' + j * 5 + 4, none⟩ = some (.slice r'.A r'.n r'.c))) (by kernel_rfl) ⟨x0, x1, x2, x3, x4, y0, y1, y2, y3, y4⟩ (fun hHeld => ?_)
      refine wpAnyH_take (i := 0) (v := ?vEbn20) (take_list rfl) (by kernel_rfl) (by kernel_rfl) (by kernel_rfl) (fun _ _ _ h => h) (Or.inl ⟨by rfl, ?hyEbn20⟩) (by assumption) ?restEbn20
      case hyEbn20 => (intro w hSw; (try dsimp only at hSw); go_simp <;> with_reducible rfl)
      try simp only [Act.put, List.setIfInBounds_toArray, List.set_cons_zero, List.set_cons_succ]
      refine wpAnyH_take (i := 1) (v := ?vEbn21) (take_list rfl) (by kernel_rfl) (by kernel_rfl) (by kernel_rfl) (fun _ _ _ h => h) (Or.inl ⟨by rfl, ?hyEbn21⟩) (by assumption) ?restEbn21
      case hyEbn21 => (intro w hSw; (try dsimp only at hSw); go_simp <;> with_reducible rfl)
      try simp only [Act.put, List.setIfInBounds_toArray, List.set_cons_zero, List.set_cons_succ]
      refine wpAnyH_take (i := 2) (v := ?vEbn22) (take_list rfl) (by kernel_rfl) (by kernel_rfl) (by kernel_rfl) (fun _ _ _ h => h) (Or.inl ⟨by rfl, ?hyEbn22⟩) (by assumption) ?restEbn22
      case hyEbn22 => (intro w hSw; (try dsimp only at hSw); go_simp <;> with_reducible rfl)
      try simp only [Act.put, List.setIfInBounds_toArray, List.set_cons_zero, List.set_cons_succ]
      refine wpAnyH_take (i := 3) (v := ?vEbn23) (take_list rfl) (by kernel_rfl) (by kernel_rfl) (by kernel_rfl) (fun _ _ _ h => h) (Or.inl ⟨by rfl, ?hyEbn23⟩) (by assumption) ?restEbn23
      case hyEbn23 => (intro w hSw; (try dsimp only at hSw); go_simp <;> with_reducible rfl)
      try simp only [Act.put, List.setIfInBounds_toArray, List.set_cons_zero, List.set_cons_succ]
      refine wpAnyH_take (i := 4) (v := ?vEbn24) (take_list rfl) (by kernel_rfl) (by kernel_rfl) (by kernel_rfl) (fun _ _ _ h => h) (Or.inl ⟨by rfl, ?hyEbn24⟩) (by assumption) ?restEbn24
      case hyEbn24 => (intro w hSw; (try dsimp only at hSw); go_simp <;> with_reducible rfl)
      try simp only [Act.put, List.setIfInBounds_toArray, List.set_cons_zero, List.set_cons_succ]
      refine wpAnyH_take (i := 5) (v := ?vEbn25) (take_list rfl) (by kernel_rfl) (by kernel_rfl) (by kernel_rfl) (fun _ _ _ h => h) (Or.inl ⟨by rfl, ?hyEbn25⟩) (by assumption) ?restEbn25
      case hyEbn25 => (intro w hSw; (try dsimp only at hSw); go_simp <;> with_reducible rfl)
      try simp only [Act.put, List.setIfInBounds_toArray, List.set_cons_zero, List.set_cons_succ]
      refine wpAnyH_take (i := 6) (v := ?vEbn26) (take_list rfl) (by kernel_rfl) (by kernel_rfl) (by kernel_rfl) (fun _ _ _ h => h) (Or.inl ⟨by rfl, ?hyEbn26⟩) (by assumption) ?restEbn26
      case hyEbn26 => (intro w hSw; (try dsimp only at hSw); go_simp <;> with_reducible rfl)
      try simp only [Act.put, List.setIfInBounds_toArray, List.set_cons_zero, List.set_cons_succ]
      refine wpAnyH_take (i := 7) (v := ?vEbn27) (take_list rfl) (by kernel_rfl) (by kernel_rfl) (by kernel_rfl) (fun _ _ _ h => h) (Or.inl ⟨by rfl, ?hyEbn27⟩) (by assumption) ?restEbn27
      case hyEbn27 => (intro w hSw; (try dsimp only at hSw); go_simp <;> with_reducible rfl)
      try simp only [Act.put, List.setIfInBounds_toArray, List.set_cons_zero, List.set_cons_succ]
      refine wpAnyH_ready (rs := [8]) (by kernel_rfl) (by simp) ?_
      refine AllReadyH.cons rfl (fun K hK => ?_) AllReadyH.nil
      go_simp
      go_wp2_with (go_at_call 32; refine (same10 r.key r.e r.B r.e.places.length r.e.places.length r'.key r'.e r'.A r'.n r'.c _ (by exact RR.out) (by exact RR'.out)).mono ?_; rw [f1]; rintro e w3 ⟨rfl, hb3⟩; have B3 := Lib.hid (show Below wr.heap.size wr w3 from ⟨hb3.os, hb3.tape, hb3.output, hb3.size, hb3.block⟩); clear hb3)
      clear hHeld
      refine hK.out _ _ ⟨(B3.out.cell (p := ⟨b, _, none⟩) hlb).trans x0, (B3.out.cell (p := ⟨b, _, none⟩) hlb).trans x1, (B3.out.cell (p := ⟨b, _, none⟩) hlb).trans x2, (B3.out.cell (p := ⟨b, _, none⟩) hlb).trans x3, (B3.out.cell (p := ⟨b, _, none⟩) hlb).trans x4, (B3.out.cell (p := ⟨b', _, none⟩) hlb').trans y0, (B3.out.cell (p := ⟨b', _, none⟩) hlb').trans y1, (B3.out.cell (p := ⟨b', _, none⟩) hlb').trans y2, (B3.out.cell (p := ⟨b', _, none⟩) hlb').trans y3, (B3.out.cell (p := ⟨b', _, none⟩) hlb').trans y4⟩ (fun hHeld => ?_)
      clear hK K
      refine wpAnyH_take (i := 9) (v := ?vEbn29) (take_list rfl) (by kernel_rfl) (by kernel_rfl) (by kernel_rfl) (fun _ _ _ h => h) (Or.inl ⟨by rfl, ?hyEbn29⟩) (by assumption) ?restEbn29
      case hyEbn29 => (intro w hSw; (try dsimp only at hSw); go_simp <;> with_reducible rfl)
      try simp only [Act.put, List.setIfInBounds_toArray, List.set_cons_zero, List.set_cons_succ]
      refine wpAnyH_done (by kernel_rfl) ?_ _
      go_wp2_with fail
      go_roundw
      case rel => exact ⟨j + 1, by go_num, hlt, by rw [List.take_add_one, List.take_add_one, List.getElem?_map, List.getElem?_map, HX.out, HY.out, HEQ.out, Option.map_some, Option.map_some, show entK r = entKR r' from HE1.out], BL.out.trans (B3.out.mono hz)⟩
      case measure => simp [intOf]; omega
    · have d1 : decide (j < n) = false := by simpa using hlt
      obtain rfl : j = n := by omega
      have q := decide_eq_true (show EP.map entK = EP'.map entKR by
        have h8 := HEQ.out
        rwa [List.take_of_length_le (by rw [List.length_map, H.out.len]; exact Nat.le_refl _), List.take_of_length_le (by rw [List.length_map, H'.out.len]; exact Nat.le_refl _)] at h8)
      go_wp2_with fail
      go_ret
      exact ⟨by first | rfl | exact ret_b q.symm, BL.out⟩
end
def entR (L : List FoundP) (x : CopyE × Nat) : EntR := ⟨x.1.b.key, ⟨x.1.b.gen, x.1.b.size, x.1.b.sum, placesOf L x.1.b⟩, some ⟨x.1.g, 0, none⟩, slotsB x.1.b, x.2⟩
theorem ent5_ref (L : List FoundP) (rs : List (CopyE × Nat)) : ent5 (rs.map (entR L)) = refVals rs := by
  unfold ent5 refVals
  rw [List.flatMap_map]
  rfl
theorem ents_rdR {L : List FoundP} {w : World} {g m : Nat} {rs : List (CopyE × Nat)} (hlen : rs.length = m) (hm : m ≤ 1000) (hs : SrcAt w (some ⟨g, 0, none⟩) m (refVals rs)) (hp : ∀ x ∈ rs, PlcAt w x.1.g (placesOf L x.1.b)) (hsl : ∀ x ∈ rs, slotsB x.1.b ≤ maxLen) : EntsRdR w (some ⟨g, 0, none⟩) m (rs.map (entR L)) := by
  refine ⟨by rw [List.length_map, hlen], by rw [ent5_ref]; exact hs, fun r hr => ?_, by simp only [maxLen]; omega⟩
  obtain ⟨x, hx, rfl⟩ := List.mem_map.1 hr
  exact ⟨⟨places_len L x.1.b, .inr ⟨x.1.g, 0, rfl, fun j u hu => by rw [Nat.zero_add]; exact (hp x hx).2 j u hu⟩⟩, hsl x hx⟩
theorem founds_src2 {w : World} {A : Option Addr} {n : Nat} {G : Nat → FoundP} (h : FoundsIn w A n G) : SrcAt w A n (foundVals ((List.range n).map G)) := by
  rcases h with h0 | ⟨b, off, hA, _, hc⟩
  · subst h0
    exact .inl ⟨rfl, rfl⟩
  · refine .inr ⟨b, off, hA, fun j u hu => ?_⟩
    have hj : j < ((List.range n).map G).length * 12 := by
      rw [← foundVals_len]
      exact (List.getElem?_eq_some_iff.1 hu).1
    rw [List.length_map, List.length_range] at hj
    have hi : j / 12 < n := by omega
    have hg := foundVals_get (P := (List.range n).map G) (i := j / 12) (p := G (j / 12)) (by simp [hi]) (q := j % 12) (by omega)
    rw [show j / 12 * 12 + j % 12 = j by omega] at hg
    rw [hg] at hu
    have := hc (j / 12) hi (j % 12) u hu
    rw [show off + j / 12 * 12 + j % 12 = off + j by omega] at this
    exact this
set_option maxHeartbeats 8000000 in
set_option maxRecDepth 100000 in
theorem best_walk (A : Option Addr) (n c : Nat) (G : Nat → FoundP) (w : World) (hnc : n ≤ c) (hcm : c ≤ maxLen) (hin : FoundsIn w A n G) (hdt : ∀ i, i < n → BytesIn w (G i).A (G i).r.data.length (G i).r.data) :
    Calls Try.prog 3 #[.slice A n c] w fun e w' => e = .returned (.bool true) ∧ Below w.heap.size w w' := by
  have hP0 : ((List.range n).map G).length = n := by simp
  have hS0 : SrcAt w A n (foundVals ((List.range n).map G)) := founds_src2 hin
  have hD0 : DataP w ((List.range n).map G) := fun p hp => by
    obtain ⟨i, hi, rfl⟩ := List.mem_map.1 hp
    exact hdt i (List.mem_range.1 hi)
  have hAf : n = 0 ∨ ∃ b off, A = some ⟨b, off, none⟩ := by
    rcases hin with h | ⟨b, off, h, _⟩
    · exact .inl h
    · exact .inr ⟨b, off, h⟩
  obtain ⟨P0, hPe⟩ : ∃ P0, (List.range n).map G = P0 := ⟨_, rfl⟩
  rw [hPe] at hP0 hS0 hD0
  have FW := Lib.hid (fun W => sFew A n c hnc hcm W hAf)
  obtain ⟨n2, hn2⟩ : ∃ z, min n 130 = z := ⟨_, rfl⟩
  obtain ⟨P, hP⟩ : ∃ P, P0.take n2 = P := ⟨_, rfl⟩
  have hPl : P.length = n2 := by rw [← hP, List.length_take]; omega
  have S0 := Lib.hid (show SrcAt w A n2 (foundVals P) by have h := src_take (P := P0) (k := n2) (by omega) (hP0.symm ▸ hS0); rw [hP, hPl] at h; exact h)
  have D0 := Lib.hid (show DataP w P from fun p hp => hD0 p (by rw [← hP] at hp; exact List.mem_of_mem_take hp))
  have HPL := Lib.hid hPl
  have hn60 : n2 ≤ 130 := by omega
  have hn2c : n2 ≤ c := by omega
  rw [hn2] at FW
  obtain ⟨L, hL⟩ : ∃ L, P.filter okF = L := ⟨_, rfl⟩
  have hok : ∀ p ∈ L, okF p = true := fun p hp => by rw [← hL] at hp; exact (List.mem_filter.1 hp).2
  have HOK := Lib.hid hok
  have HL := Lib.hid hL
  clear hP0 hS0 hD0 hP hPl hL hok hAf hin hn2 hPe hdt
  have SB := Lib.hid (show Calls Try.prog 10 #[.slice A n2 c] w fun e w' => ∃ B EP bs, e = .returned (.tuple #[.slice B EP.length EP.length, .int .i64 (mostV L)]) ∧ BestV L bs ∧ EntsRd w' B EP.length EP ∧ EP.map entK = bs.map (fun b => (b.key, (⟨b.gen, b.size, b.sum, placesOf L b⟩ : EntV))) ∧ Below w.heap.size w w' from by
    have h := sBestL A c P w (by rw [HPL.out]; exact S0.out) (by rw [HPL.out]; omega)
    rw [HPL.out, HL.out] at h
    refine h.mono ?_
    rintro e w' ⟨B, es, rfl, hl, hr⟩
    exact ⟨B, es.map (entP L), es.map CopyE.b, by rw [List.length_map], hr.best, by rw [List.length_map]; exact best_rd HOK.out hr (by omega), by rw [List.map_map, List.map_map]; rfl, hr.base⟩)
  have RB := Lib.hid (show ∀ W, Below w.heap.size w W → Calls Try.prog 11 #[.slice A n2 c] W fun e w' => ∃ (g m k : Nat) (RP : List EntR) (bs : List BlobV), e = .returned (.tuple #[.slice (some ⟨g, 0, none⟩) m k, .int .i64 (mostV L)]) ∧ BestV L bs ∧ EntsRdR w' (some ⟨g, 0, none⟩) m RP ∧ RP.map entKR = bs.map (fun b => (b.key, (⟨b.gen, b.size, b.sum, placesOf L b⟩ : EntV))) ∧ Below W.heap.size W w' from fun W hW => by
    have h := rBest10 A n2 c P W HPL.out hn2c hcm (by omega) (src_below S0.out hW) (D0.out.below hW)
    rw [HL.out] at h
    refine h.mono ?_
    rintro e w' ⟨g, m, k, rs, rfl, hb, hlen, hmn, hs, hp, hbl⟩
    refine ⟨g, m, k, rs.map (entR L), (rs.map Prod.fst).map CopyE.b, rfl, hb, ents_rdR hlen (by omega) hs hp (fun x hx => ?_), by rw [List.map_map, List.map_map, List.map_map]; rfl, hbl⟩
    obtain ⟨⟨hc, _⟩, _⟩ := (hb.mem x.1.b).1 (List.mem_map.2 ⟨x.1, List.mem_map.2 ⟨x, hx, rfl⟩, rfl⟩)
    obtain ⟨q, hq, _, hq4, _⟩ := copy_facts HOK.out hc
    simp only [maxLen]
    omega)
  obtain ⟨ms, hms⟩ : ∃ z, mostV L = z := ⟨_, rfl⟩
  rw [hms] at SB RB
  clear hms
  go_enter Try.func3, Try.ntmps3
  go_upto_region 2 with (go_at_call 9; (refine (FW.out _).mono ?_; rintro e w2 ⟨rfl, rfl⟩))
  clear FW
  go_upto_region 3 with (go_at_call 10; (refine (SB.out).mono ?_; rintro e w3 ⟨Ba, EA, bs, rfl, hbs, hrd, hek, hb⟩; have BS := Lib.hid hbs; have RA := Lib.hid hrd; have EK := Lib.hid hek; have B3 := Lib.hid hb; clear hbs hrd hek hb))
  go_upto_region 4 with (go_at_call 11; (refine (RB.out _ B3.out).mono ?_; rintro e w4 ⟨g, m, k, RP, rs, rfl, hbs, hrd, hek, hb⟩; have BS2 := Lib.hid hbs; have RR := Lib.hid hrd; have EK2 := Lib.hid hek; have RA4 := Lib.hid (RA.out.below hb); have B4 := Lib.hid (show Below w.heap.size w w4 from B3.out.trans (hb.mono B3.out.size)); clear hbs hrd hek hb))
  have EQ := Lib.hid (show EA.map entK = RP.map entKR by rw [EK.out, EK2.out, BS.out.same BS2.out])
  have AL := Lib.hid (show ∀ W, Below w4.heap.size w4 W → Calls Try.prog 13 #[.slice Ba EA.length EA.length, .slice (some ⟨g, 0, none⟩) m k] W fun e w' => e = .returned (.bool true) ∧ Below W.heap.size W w' from fun W hW => (alike10r Ba EA.length EA.length EA (some ⟨g, 0, none⟩) m k RP W (RA4.out.below hW) (RR.out.below hW)).mono fun e w' ⟨h1, h2⟩ => ⟨by rw [h1, decide_eq_true EQ.out], h2⟩)
  have mq : (ms == ms) = true := by simp
  clear RA SB RB
  go_wp2_with (first
    | (go_at_call 12; refine (sAwake _).mono ?_; rintro e wA ⟨rfl, hbA⟩; have B10 := Lib.hid (show Below w4.heap.size w4 wA from (by first | exact hbA | exact below_of_drew hbA)); clear hbA)
    | (go_at_call 13; refine (AL.out _ B10.out).mono ?_; rintro e wB ⟨rfl, hbB⟩; have B11 := Lib.hid (show Below w.heap.size w wB from B4.out.trans ((B10.out.trans (hbB.mono B10.out.size)).mono B4.out.size)); clear hbB))
  go_ret
  exact ⟨rfl, B11.out⟩
end Go.Proofs.Ythceidacmeadkaa
