/- The law PlaceTurned returns true on values. No condition beyond those that each theorem states. -/
import Derived.Test.YtjeccacacecdfaaPT1
import Derived.Deep.DeepCutAuto
import Derived.Deep.CutBlock
import Derived.WalkSpells
import Derived.WalkLawsBesides
namespace Go.Proofs.Ytjeccacacecdfaa
open Go.RowKit Go.Shelf Go.Maps

/-- The cartridges that were laid: numbered, each once. -/
structure UpTo (E : List (Int × Int)) (k : Nat) : Prop where
  len : E.length = k
  nd : (E.map Prod.fst).Nodup
  key : ∀ p ∈ E, 0 ≤ p.1 ∧ p.1 < k
  wf : ∀ p ∈ E, wfI p.1 ∧ wfI p.2
theorem UpTo.nil : UpTo [] 0 := ⟨rfl, by simp, by simp, by simp⟩
theorem UpTo.snoc {E : List (Int × Int)} {k : Nat} (h : UpTo E k) {r : Int} (hr : wfI r) (hk : k ≤ 1000) : UpTo (E ++ [((k : Int), r)]) (k + 1) := by
  refine ⟨by rw [List.length_append, h.len]; rfl, ?_, fun p hp => ?_, fun p hp => ?_⟩
  · rw [List.map_append, List.nodup_append]
    refine ⟨h.nd, by simp, fun a ha b hb => ?_⟩
    obtain ⟨p, hp, rfl⟩ := List.mem_map.1 ha
    have hb : b = (k : Int) := by simpa using hb
    subst hb
    have := (h.key p hp).2
    omega
  · rcases List.mem_append.1 hp with hp | hp
    · have := h.key p hp
      omega
    · have e : p = ((k : Int), r) := by simpa using hp
      subst e
      show 0 ≤ (k : Int) ∧ (k : Int) < ((k + 1 : Nat) : Int)
      omega
  · rcases List.mem_append.1 hp with hp | hp
    · exact h.wf p hp
    · have e : p = ((k : Int), r) := by simpa using hp
      subst e
      refine ⟨?_, hr⟩
      show (Lit.int .i64 (k : Int)).wf = true
      simp [Lit.wf, IntKind.min, IntKind.max, IntKind.signed, IntKind.bits]
      omega
structure LRow (w wx : World) (v : Value) (E : List (Int × Int)) (k : Nat) : Prop where
  up : UpTo E k
  row : ∃ g cap, v = .slice (some ⟨g, 0, none⟩) k cap ∧ wx.ownsRow w.heap.size 32 2 (.slice (some ⟨g, 0, none⟩) k cap) k (freeVs E)
  below : Below w.heap.size w wx
/-- The list and its copy. -/
structure MRow (w wx : World) (g : Nat) (E : List (Int × Int)) (X : Option Addr) (M : List (Int × Int)) : Prop where
  perm : M.Perm E
  list : FB wx g E
  below : Below w.heap.size w wx
  copy : E.length = 0 ∨ ∃ g2, X = some ⟨g2, 0, none⟩ ∧ g2 ≠ g ∧ w.heap.size ≤ g2 ∧ FB wx g2 M
theorem same_one (A B : Option Addr) (n c m d : Nat) (l : List Int) (w : World) (ha : IntsIn w A n l) (hb : IntsIn w B m l) (hn : n ≤ 1000000) (hm : m ≤ 9223372036854775807) :
    Calls Try.prog 11 #[.slice A n c, .slice B m d] w fun e w' => e = .returned (.bool true) ∧ Below w.heap.size w w' :=
  (same A B n c m d l l w ha hb hn hm).mono fun _ _ ⟨h1, h2⟩ => ⟨h1.trans (bool_val (by simp)), h2⟩

set_option maxRecDepth 100000 in
set_option maxHeartbeats 20000000 in
theorem placeTurned_walk (A : Option Addr) (n c : Nat) (rooms : List Int) (x : Nat) (B : Option Addr) (m d : Nat) (ts : List UInt8) (w : World) (hA : IntsIn w A n rooms) (hwf : ∀ r ∈ rooms, wfI r) (hB : BytesIn w B m ts) (hn : n ≤ c) (hc : c ≤ maxLen) (hm : m ≤ d) (hd : d ≤ maxLen) :
    Calls Try.prog 6 #[.slice A n c, .int .u8 x, .slice B m d] w fun e w' => e = .returned (.bool true) ∧ Below w.heap.size w w' := by
  have HA := Lib.hid hA
  have HB := Lib.hid hB
  have HWF := Lib.hid hwf
  obtain ⟨i0, hi0, hz0, hz1, hz2⟩ := info_parts free_info
  have hc63 : n ≤ 9223372036854775807 := by simp only [maxLen] at hc; omega
  have hm63 : m ≤ 9223372036854775807 := by simp only [maxLen] at hd; omega
  obtain ⟨K, hK, hK16⟩ : ∃ K : Nat, (x : Int) % 16 = (K : Int) ∧ K < 16 := ⟨x % 16, by omega, by omega⟩
  have HHK := Lib.hid hK
  clear hA hB hwf hK
  go_enter Try.func6, Try.ntmps6
  go_upto_block 0 with fail
  go_cut [7] (fun s7 wx => ∃ E k, k ≤ 40 ∧ LRow w wx s7 E k)
  case first =>
    go_wp2_with fail
    go_loopw [7, 8] (fun v i wx => ∃ E k, k ≤ n ∧ k ≤ 40 ∧ i = .int .i64 (k : Nat) ∧ LRow w wx v E k) (fun _ i _ => n - (intOf i).toNat)
    case atStart => exact ⟨[], 0, Nat.zero_le _, by omega, rfl, UpTo.nil, ⟨_, 0, rfl, own_made w _ 2 rfl (Nat.le_refl _)⟩, (Below.refl _ _).alloc (Nat.le_refl _) _⟩
    case round =>
      obtain ⟨E, k, hkn, hk40, rfl, hl⟩ := hrel
      have LR := Lib.hid hl
      obtain ⟨hup, ⟨g, cap, rfl, hrow⟩, hbl⟩ := hl
      have RW := Lib.hid hrow
      have UP := Lib.hid hup
      have HBL := Lib.hid hbl
      have hz := hbl.size
      have hgl := hrow.lt g rfl
      have hfl : (freeVs E).length = k * 2 := by rw [freeVs_len, hup.len]
      have HFL := Lib.hid hfl
      clear hrow hup hbl hfl
      by_cases h1 : k < n
      · have d1 : decide (k < n) = true := by simpa using h1
        by_cases h2 : k < 40
        · have d2 : decide ((k : Int) < 40) = true := by simp; omega
          obtain ⟨b, off, rfl, hbw, hcs⟩ := HA.out.2.resolve_left (by omega)
          obtain ⟨r, hr⟩ : ∃ r, rooms[k]? = some r := ⟨_, List.getElem?_eq_getElem (by rw [HA.out.1]; exact h1)⟩
          have k0 : wr.cell? ⟨b, off + k, none⟩ = some (.int .i64 r) := (HBL.out.cell (p := ⟨b, off + k, none⟩) hbw).trans (hcs k r hr)
          have WR := Lib.hid (HWF.out r (List.mem_of_getElem? hr))
          clear hcs hr
          go_wp2_with (
            (at_builtin
             refine wpList_append_form _ rfl (.tmp 29) (.tmp 36) 22 rfl w.heap.size 32 i0 _ 2 16 Try.underlying22 hi0 hz0 hz1 hz2 rfl (by omega) _ k (freeVs E) rfl (by exact RW.out.alloc _) (some ⟨wr.heap.size, 0, none⟩) 1 1 (freeV ((k : Int), r)) rfl rfl (fun e => by cases e) (by exact src_new _ _ _ _) (by intro u hu; simp only [freeV, List.mem_cons, List.not_mem_nil, or_false] at hu; rcases hu with rfl | rfl <;> rfl) (by omega) (by simp only [maxLen]; omega) (by omega) (by simp; omega) ?_
             intro g2 cap2 w4 hown4 hg4 hat4 hlt4
             have RW4 := Lib.hid hown4
             have G4 := Lib.hid hg4
             clear hown4 hg4 hat4))
          go_roundw
          case rel => exact ⟨E ++ [((k : Int), r)], k + 1, h1, by omega, by go_num, UP.out.snoc WR.out (by omega), ⟨g2, cap2, rfl, by rw [freeVs_snoc]; exact RW4.out⟩, (HBL.out.alloc (by exact hz) _).grown G4.out (by simp; omega) (fun q hq => by have h : g = q := Option.some.inj hq; omega)⟩
          case measure => simp [intOf]; omega
        · have d2 : decide ((k : Int) < 40) = false := by simp; omega
          go_wp2_with fail
          go_meet
          exact ⟨E, k, hk40, LR.out⟩
      · have d1 : decide (k < n) = false := by simpa using h1
        go_wp2_with fail
        go_meet
        exact ⟨E, k, hk40, LR.out⟩
  case rest =>
    obtain ⟨E, k, hk40, hl⟩ := hcut
    obtain ⟨w3, rfl⟩ : ∃ w3 : World, w3 = wc := ⟨_, rfl⟩
    obtain ⟨hup, ⟨g, cap, rfl, hrow⟩, hbl⟩ := hl
    have RW := Lib.hid hrow
    have UP := Lib.hid hup
    have HBL := Lib.hid hbl
    have hz := hbl.size
    have hgl := hrow.lt g rfl
    have hfl : (freeVs E).length = k * 2 := by rw [freeVs_len, hup.len]
    have HFL := Lib.hid hfl
    clear hrow hup hbl hfl HA HWF
    go_upto_region 6 with fail
    go_cut [9] (fun s9 wx => ∃ X cap2, s9 = .slice X k cap2 ∧ MRow w wx g E X E)
    case first =>
      by_cases hk0 : k = 0
      · subst hk0
        have he : E = [] := List.eq_nil_of_length_eq_zero UP.out.len
        subst he
        go_wp2_with (
          (at_builtin
           refine wpList_append_src _ rfl (.tmp 38) (.tmp 39) 22 rfl w.heap.size 32 i0 _ 2 16 Try.underlying22 hi0 hz0 hz1 hz2 rfl (by omega) _ 0 [] rfl (by exact own_made w3 _ 2 rfl hz) (some ⟨g, 0, none⟩) 0 cap [] rfl rfl (fun e => by cases e) (.inl ⟨rfl, rfl⟩) (by simp) (by simp [maxLen]) (by omega) (by simp; omega) ?_
           intro v4 w4 hown4 hg4 hat4
           have RW4 := Lib.hid hown4
           have G4 := Lib.hid hg4
           have HAT := Lib.hid hat4
           clear hown4 hg4 hat4))
        go_meet
        have hf := RW4.out.2
        have hbb : Below w.heap.size w w4 := (HBL.out.alloc (by exact hz) _).grown G4.out (by simp; omega) (fun q hq => by have h : w3.heap.size = q := Option.some.inj hq; omega)
        have hfb : FB w4 g [] := (FB.of_own RW.out).of_eq ((G4.out.block g (by simp; omega) (fun e => by have h : g = w3.heap.size := Option.some.inj e; omega)).trans (Below.heap_alloc _ _ _ hgl.2))
        rcases hf with ⟨rfl, _⟩ | ⟨g5, cap5, cur, rfl, _⟩
        · exact ⟨none, 0, rfl, List.Perm.refl _, hfb, hbb, .inl rfl⟩
        · exact ⟨_, cap5, rfl, List.Perm.refl _, hfb, hbb, .inl rfl⟩
      · go_wp2_with (
          (at_builtin
           refine wpList_append_form _ rfl (.tmp 38) (.tmp 39) 22 rfl w.heap.size 32 i0 _ 2 16 Try.underlying22 hi0 hz0 hz1 hz2 rfl (by omega) _ 0 [] rfl (by exact own_made w3 _ 2 rfl hz) (some ⟨g, 0, none⟩) k cap (freeVs E) rfl HFL.out (fun e => by cases e) (by exact own_src (RW.out.alloc _) 0 k (freeVs E) (fun q u hu => by rw [Nat.zero_add]; exact hu)) (by intro u hu; obtain ⟨p, _, hp⟩ := List.mem_flatMap.1 hu; simp only [freeV, List.mem_cons, List.not_mem_nil, or_false] at hp; rcases hp with rfl | rfl <;> rfl) (by omega) (by simp only [maxLen]; omega) (by omega) (by simp; omega) ?_
           intro g5 cap5 w4 hown4 hg4 hat4 hlt4
           have RW4 := Lib.hid hown4
           have G4 := Lib.hid hg4
           have HAT := Lib.hid hat4
           clear hown4 hg4 hat4))
        go_meet
        have hbb : Below w.heap.size w w4 := (HBL.out.alloc (by exact hz) _).grown G4.out (by simp; omega) (fun q hq => by have h : w3.heap.size = q := Option.some.inj hq; omega)
        have hfb : FB w4 g E := (FB.of_own RW.out).of_eq ((G4.out.block g (by simp; omega) (fun e => by have h : g = w3.heap.size := Option.some.inj e; omega)).trans (Below.heap_alloc _ _ _ hgl.2))
        have hown5 : w4.ownsRow w.heap.size 32 2 (.slice (some ⟨g5, 0, none⟩) k cap5) k (freeVs E) := by have h := RW4.out; rwa [Nat.zero_add, List.nil_append] at h
        have hg5 : g5 ≠ g ∧ w.heap.size ≤ g5 := by
          rcases HAT.out with h | h
          · have h : w3.heap.size = g5 := Option.some.inj h
            omega
          · have h : g5 = w3.heap.size + 1 := by simpa using h
            omega
        exact ⟨_, cap5, by simp, List.Perm.refl _, hfb, hbb, .inr ⟨g5, rfl, hg5.1, hg5.2, FB.of_own hown5⟩⟩
    case rest =>
      clear RW HBL hz hgl
      obtain ⟨X, cap2, rfl, hmr⟩ := hcut
      obtain ⟨w4, rfl⟩ : ∃ w4 : World, w4 = wc := ⟨_, rfl⟩
      have MR := Lib.hid hmr
      clear hmr
      go_upto_block 2 with fail
      go_cut [10] (fun s10 wx => ∃ M, MRow w wx g E X M)
      case first =>
        go_wp2_with fail
        go_loopw [10] (fun i wx => ∃ (j : Nat) (M : List (Int × Int)), j ≤ 62 ∧ i = .int .i64 (j : Nat) ∧ MRow w wx g E X M) (fun i _ => 100 - (intOf i).toNat)
        case atStart => exact ⟨0, E, by omega, rfl, MR.out⟩
        case round =>
          clear MR
          obtain ⟨j, M, hj, rfl, hmr⟩ := hrel
          have MR := Lib.hid hmr
          obtain ⟨hperm, hfb, hbl, hcp⟩ := hmr
          have HP := Lib.hid hperm
          have FL := Lib.hid hfb
          have BL := Lib.hid hbl
          have hz := hbl.size
          have CP := Lib.hid hcp
          clear hperm hfb hbl hcp
          by_cases h1 : j + 1 < m
          · have d1 : decide ((j : Int) + 1 < m) = true := by simp; omega
            by_cases h2 : j < 60
            · have d2 : decide ((j : Int) < 60) = true := by simp; omega
              by_cases hk0 : k = 0
              · subst hk0
                go_wp2_with fail
                go_meet
                exact ⟨M, MR.out⟩
              · have d3 : decide ((0 : Int) < k) = true := by simp; omega
                have d3n : decide (0 < k) = true := by simp; omega
                obtain ⟨g2, rfl, hgg, hg2, hfb2⟩ := CP.out.resolve_left (by rw [UP.out.len]; exact hk0)
                have F2 := Lib.hid hfb2
                have hg2l := hfb2.size
                clear hfb2
                obtain ⟨b, off, rfl, hbw, hcs⟩ := HB.out.2.resolve_left (by omega)
                obtain ⟨u1, hu1⟩ : ∃ u, ts[j]? = some u := ⟨_, List.getElem?_eq_getElem (by rw [HB.out.1]; omega)⟩
                obtain ⟨u2, hu2⟩ : ∃ u, ts[j + 1]? = some u := ⟨_, List.getElem?_eq_getElem (by rw [HB.out.1]; omega)⟩
                have k1 : ∀ N, (wr.drewN N).cell? ⟨b, off + j, none⟩ = some (.int .u8 (u1.toNat : Int)) := fun N => (BL.out.cell (p := ⟨b, off + j, none⟩) hbw).trans (hcs j u1 hu1)
                have k2 : ∀ N, (wr.drewN N).cell? ⟨b, off + (j + 1), none⟩ = some (.int .u8 (u2.toNat : Int)) := fun N => (BL.out.cell (p := ⟨b, off + (j + 1), none⟩) hbw).trans (hcs (j + 1) u2 hu2)
                clear hcs hu1 hu2
                have b1 : u1.toNat < 256 := u1.toNat_lt
                have b2 : u2.toNat < 256 := u2.toNat_lt
                generalize u1.toNat = y1 at *
                generalize u2.toNat = y2 at *
                go_upto_region 10 with fail
                go_quiet (fail)
                obtain ⟨p, hp, hpk⟩ : ∃ p : Nat, (y1 : Int) % (k : Int) = (p : Int) ∧ p < k := ⟨y1 % k, by simp, Nat.mod_lt _ (by omega)⟩
                obtain ⟨s, hs, hsk⟩ : ∃ s : Nat, (y2 : Int) % (k : Int) = (s : Int) ∧ s < k := ⟨y2 % k, by simp, Nat.mod_lt _ (by omega)⟩
                rw [hp, hs]
                obtain ⟨wq, hwq⟩ : ∃ wq : World, wq = wr.drewN nq := ⟨_, rfl⟩
                have F2q := Lib.hid (show FB wq g2 M by rw [hwq]; exact F2.out.drewN nq)
                have FLq := Lib.hid (show FB wq g E by rw [hwq]; exact FL.out.drewN nq)
                have BLq := Lib.hid (show Below w.heap.size w wq by rw [hwq]; exact below_drewN BL.out nq)
                rw [← hwq]
                clear hwq k1 k2 hp hs F2 FL BL MR CP hg2l b1 b2 hbw
                have hML : M.length = k := by rw [HP.out.length_eq, UP.out.len]
                obtain ⟨⟨pa, pb⟩, hMp⟩ : ∃ f, M[p]? = some f := ⟨_, List.getElem?_eq_getElem (by omega)⟩
                obtain ⟨⟨sa, sb⟩, hMs⟩ : ∃ f, M[s]? = some f := ⟨_, List.getElem?_eq_getElem (by omega)⟩
                have c1 : wq.cell? ⟨g2, p * 2, none⟩ = some (.int .i64 pa) := F2q.out.cart hMp
                have c2 : wq.cell? ⟨g2, p * 2 + 1, none⟩ = some (.int .i64 pb) := F2q.out.room hMp
                have c3 : wq.cell? ⟨g2, s * 2, none⟩ = some (.int .i64 sa) := F2q.out.cart hMs
                have c4 : wq.cell? ⟨g2, s * 2 + 1, none⟩ = some (.int .i64 sb) := F2q.out.room hMs
                have f1 : wq.frozen? ⟨g2, p * 2, none⟩ = false := F2q.out.free _
                have f2 : wq.frozen? ⟨g2, p * 2 + 1, none⟩ = false := F2q.out.free _
                have f3 : wq.frozen? ⟨g2, s * 2, none⟩ = false := F2q.out.free _
                have f4 : wq.frozen? ⟨g2, s * 2 + 1, none⟩ = false := F2q.out.free _
                have hg2q : g2 < wq.heap.size := F2q.out.size
                have HMP := Lib.hid hMp
                have HMS := Lib.hid hMs
                have HML := Lib.hid hML
                clear hMp hMs hML
                go_upto_region 13 with fail
                clear c1 c2 c3 c4 f1 f2 f3 f4
                obtain ⟨w6, hw6⟩ : ∃ w6 : World, w6 = (wq.setCell ⟨g2, p * 2, none⟩ (.int .i64 sa)).setCell ⟨g2, p * 2 + 1, none⟩ (.int .i64 sb) := ⟨_, rfl⟩
                have F6 := Lib.hid (show FB w6 g2 (M.set p (sa, sb)) by rw [hw6]; exact F2q.out.store (sa, sb) (by rw [HML.out]; exact hpk))
                have L6 := Lib.hid (show FB w6 g E by rw [hw6]; exact (FLq.out.apart (fun e => hgg e.symm) _).apart (fun e => hgg e.symm) _)
                have B6 := Lib.hid (show Below w.heap.size w w6 by rw [hw6]; exact (BLq.out.setCell hg2 _).setCell hg2 _)
                have hz6 : wq.heap.size = w6.heap.size := by rw [hw6]; simp [World.setCell]
                rw [← hw6, hz6]
                clear hw6 hg2q hz6
                have hM6 : (M.set p (sa, sb))[s]? = some (sa, sb) := by
                  rw [List.getElem?_set]
                  by_cases hps : p = s
                  · rw [if_pos hps, if_pos (by rw [HML.out]; exact hpk)]
                  · rw [if_neg hps]; exact HMS.out
                have c3 : w6.cell? ⟨g2, s * 2, none⟩ = some (.int .i64 sa) := F6.out.cart hM6
                have c4 : w6.cell? ⟨g2, s * 2 + 1, none⟩ = some (.int .i64 sb) := F6.out.room hM6
                have f3 : w6.frozen? ⟨g2, s * 2, none⟩ = false := F6.out.free _
                have f4 : w6.frozen? ⟨g2, s * 2 + 1, none⟩ = false := F6.out.free _
                have hg26 : g2 < w6.heap.size := F6.out.size
                clear hM6
                go_wp2_with fail
                go_roundw
                case rel => exact ⟨j + 2, (M.set p (sa, sb)).set s (pa, pb), by omega, by go_num, (swap_perm HMP.out HMS.out).trans HP.out, ((L6.out.apart (fun e => hgg e.symm) _).apart (fun e => hgg e.symm) _).alloc _, ((B6.out.setCell hg2 _).setCell hg2 _).alloc (by simp [World.setCell]; exact B6.out.size) _, .inr ⟨g2, rfl, hgg, hg2, (F6.out.store (pa, pb) (by rw [List.length_set, HML.out]; exact hsk)).alloc _⟩⟩
                case measure => simp [intOf]; omega
            · have d2 : decide ((j : Int) < 60) = false := by simp; omega
              go_wp2_with fail
              go_meet
              exact ⟨M, MR.out⟩
          · have d1 : decide ((j : Int) + 1 < m) = false := by simp; omega
            go_wp2_with fail
            go_meet
            exact ⟨M, MR.out⟩
      case rest =>
        clear MR
        obtain ⟨M, hmr⟩ := hcut
        obtain ⟨w8, rfl⟩ : ∃ w8 : World, w8 = wc := ⟨_, rfl⟩
        have A8 := Lib.hid (show FreesIn w8 (some ⟨g, 0, none⟩) k E by have h := hmr.list.frees UP.out.wf; rwa [UP.out.len] at h)
        have hMk : M.length = k := by rw [hmr.perm.length_eq, UP.out.len]
        have X8 := Lib.hid (show FreesIn w8 X k M by
          rcases hmr.copy with h | ⟨g2, rfl, _, _, h⟩
          · have hk0 : k = 0 := by rw [← UP.out.len]; exact h
            exact ⟨hMk, .inl hk0, fun p hp => UP.out.wf p (hmr.perm.subset hp)⟩
          · have h3 := h.frees (fun p hp => UP.out.wf p (hmr.perm.subset hp))
            rwa [hMk] at h3)
        have BL8 := Lib.hid hmr.below
        have HP := Lib.hid hmr.perm
        have hK := HHK.out
        clear hmr hMk
        go_wp2_with fail
        refine (pick (some ⟨g, 0, none⟩) k cap E K none 0 0 [] _ A8.out (IntsIn.nil _ _) (by omega) (by omega)).mono ?_
        rintro e w9 ⟨hb9, h⟩
        have X9 := Lib.hid (X8.out.below hb9)
        have BL9 := Lib.hid (BL8.out.trans (hb9.mono BL8.out.size))
        clear hb9
        rcases h with ⟨hno, rfl⟩ | ⟨q, S, g3, hqK, hq', hS, rfl, hg, hr⟩
        · have NO := Lib.hid hno
          clear hno
          go_wp2_with fail
          refine (pick X k cap2 M K none 0 0 [] _ X9.out (IntsIn.nil _ _) (by omega) (by omega)).mono ?_
          rintro e w10 ⟨hb10, h⟩
          have BL10 := Lib.hid (BL9.out.trans (hb10.mono BL9.out.size))
          clear hb10
          rcases h with ⟨hno, rfl⟩ | ⟨q, S, g3, hqK, hq', hS, rfl, hg, hr⟩
          · clear hno
            go_wp2_with fail
            refine (awake14 _).mono ?_
            rintro e w11 ⟨rfl, hb11⟩
            have BL11 := Lib.hid (BL10.out.trans (hb11.mono BL10.out.size))
            clear hb11
            go_wp2_with fail
            refine (same_one none none 0 0 0 0 [] _ (IntsIn.nil _ _) (IntsIn.nil _ _) (by decide) (by decide)).mono ?_
            rintro e w12 ⟨rfl, hb12⟩
            have BL12 := Lib.hid (BL11.out.trans (hb12.mono BL11.out.size))
            clear hb12
            go_wp2_with fail
            go_ret
            exact ⟨rfl, BL12.out⟩
          · rw [turned_len UP.out.nd HP.out] at hq'
            exact absurd ⟨by omega, by omega⟩ NO.out
        · obtain rfl : q = K := by omega
          have HS := Lib.hid hS
          have hSl : S.length = (metM E []).length := by have := hS.perm.length_eq; simpa using this
          have hql : q ≤ S.length := by omega
          have HQ := Lib.hid hq'
          have I9 := Lib.hid (show IntsIn w9 (some ⟨g3, 0, none⟩) q (S.take q) by
            have h := hr.ints
            rw [List.length_take, show min q S.length = q by omega] at h
            exact h)
          clear hS hr hqK hq' hg hSl
          go_wp2_with fail
          refine (pick X k cap2 M q none 0 0 [] _ X9.out (IntsIn.nil _ _) (by omega) (by omega)).mono ?_
          rintro e w10 ⟨hb10, h⟩
          have BL10 := Lib.hid (BL9.out.trans (hb10.mono BL9.out.size))
          have I10 := Lib.hid (I9.out.below hb10)
          clear hb10
          rcases h with ⟨hno, rfl⟩ | ⟨q', T, g4, hqK, hq', hT, rfl, hg, hr⟩
          · rw [turned_len UP.out.nd HP.out] at hno
            exact absurd ⟨by omega, by have := HQ.out; omega⟩ hno
          · obtain rfl : q' = q := by omega
            obtain rfl := turned_law UP.out.nd HP.out HS.out hT
            have J10 := Lib.hid (show IntsIn w10 (some ⟨g4, 0, none⟩) q' (T.take q') by
              have h := hr.ints
              rw [List.length_take, show min q' T.length = q' by omega] at h
              exact h)
            clear hT hr hqK hq' hg
            have hq16 : q' < 16 := hK16
            go_wp2_with fail
            refine (awake14 _).mono ?_
            rintro e w11 ⟨rfl, hb11⟩
            have BL11 := Lib.hid (BL10.out.trans (hb11.mono BL10.out.size))
            have I11 := Lib.hid (I10.out.below hb11)
            have J11 := Lib.hid (J10.out.below hb11)
            clear hb11
            go_wp2_with fail
            refine (same_one (some ⟨g3, 0, none⟩) (some ⟨g4, 0, none⟩) q' q' q' q' (T.take q') _ I11.out J11.out (by omega) (by omega)).mono ?_
            rintro e w12 ⟨rfl, hb12⟩
            have BL12 := Lib.hid (BL11.out.trans (hb12.mono BL11.out.size))
            clear hb12
            go_wp2_with fail
            go_ret
            exact ⟨rfl, BL12.out⟩
end Go.Proofs.Ytjeccacacecdfaa
