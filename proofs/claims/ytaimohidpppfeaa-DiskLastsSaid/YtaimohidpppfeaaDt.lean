/-
  DiskKeeps: the plain law and the walk.
-/
import Derived.Test.YtaimohidpppfeaaDr
import Derived.Test.YtaimohidpppfeaaDs
import Derived.Test.YtaimohidpppfeaaSm
import Derived.Deep.RegionHeld3
set_option linter.unusedVariables false
namespace Go.Proofs.Ytaimohidpppfeaa
open Go.RowKit

/-- A disk of z sectors, nothing amiss: what is read is what lasts, and the writes behind it. -/
structure KS (z : Int) (s : DS) (k : Nat) : Prop where
  size : s.size = z
  fuse : s.fuse = -1
  down : s.down = false
  now : s.now = applyW s.lasts s.pend
  pend : s.pend.length ≤ k
theorem KS.new (z : Int) (h0 : 0 ≤ z) (h1 : z ≤ 65536) : KS z (newDS z) 0 := ⟨by show min (max z 0) 65536 = z; omega, rfl, rfl, rfl, Nat.le_refl _⟩
theorem KS.burn {z : Int} {s : DS} {k : Nat} (h : KS z s k) : burnS s = s := by
  have := h.fuse
  unfold burnS
  rw [if_neg (by omega), if_neg (by omega)]
theorem KS.write {z : Int} {s : DS} {k : Nat} (h : KS z s k) {n : Int} {l : List Int} (h0 : 0 ≤ n) (h1 : n < z) (hl : l.length = 256) : writeE s n l = (0, wroteS s n l) ∧ KS z (wroteS s n l) (k + 1) := by
  have hf := h.fuse
  constructor
  · unfold writeE
    rw [if_neg (by rw [h.down]; decide), if_neg (by rw [h.size, hl]; omega), if_neg (by omega), h.burn]
  · refine ⟨h.size, h.fuse, h.down, ?_, ?_⟩
    · show updC s.now n l = applyW s.lasts (s.pend ++ [(n, l)])
      rw [applyW_snoc, h.now]
    · show (s.pend ++ [(n, l)]).length ≤ k + 1
      have := h.pend
      simp; omega
theorem KS.sync {z : Int} {s : DS} {k : Nat} (h : KS z s k) : syncE s = (0, syncedS s) ∧ KS z (syncedS s) k := by
  have hf := h.fuse
  constructor
  · unfold syncE
    rw [if_neg (by rw [h.down]; decide), if_neg (by omega), h.burn]
  · exact ⟨h.size, h.fuse, h.down, h.now, Nat.zero_le _⟩
theorem KS.read {z : Int} {s : DS} {k : Nat} (h : KS z s k) {n : Int} (h0 : 0 ≤ n) (h1 : n < z) : readE s n = (0, { s with a0 := wrap64 (s.a0 + 1) }) ∧ KS z { s with a0 := wrap64 (s.a0 + 1) } k := by
  constructor
  · unfold readE
    rw [if_neg (by rw [h.down]; decide), if_neg (by rw [h.size]; omega)]
  · exact ⟨h.size, h.fuse, h.down, h.now, h.pend⟩
theorem keptW_all {α : Type} (qs : List α) (keep : List Bool) (hk : ∀ i, keptAt keep i = true) : ∀ k, k ≤ qs.length → keptW qs keep k = qs.take k
  | 0, _ => rfl
  | k + 1, h => by rw [keptW_succ qs keep k h, if_pos (hk k), keptW_all qs keep hk k (by omega), take_snoc' qs k h]
theorem keptW_no {α : Type} (qs : List α) (keep : List Bool) (hk : ∀ i, keptAt keep i = false) : ∀ k, k ≤ qs.length → keptW qs keep k = []
  | 0, _ => rfl
  | k + 1, h => by rw [keptW_succ qs keep k h, if_neg (by rw [hk k]; decide), keptW_no qs keep hk k (by omega), List.append_nil]
theorem KS.cut {z : Int} {s : DS} {k : Nat} (h : KS z s k) (keep : List Bool) : KS z (cutS s keep) 0 := ⟨h.size, rfl, rfl, rfl, Nat.le_refl _⟩
theorem KS.cutAll {z : Int} {s : DS} {k : Nat} (h : KS z s k) (keep : List Bool) (hk : ∀ i, keptAt keep i = true) : (cutS s keep).now = s.now := by
  show applyW s.lasts (keptW s.pend keep s.pend.length) = s.now
  rw [keptW_all _ keep hk _ (Nat.le_refl _), List.take_length, h.now]
theorem cutNo (s : DS) (keep : List Bool) (hk : ∀ i, keptAt keep i = false) : (cutS s keep).now = s.lasts := by
  show applyW s.lasts (keptW s.pend keep s.pend.length) = s.lasts
  rw [keptW_no _ keep hk _ (Nat.le_refl _)]
  rfl
theorem kept_nil (i : Nat) : keptAt [] i = true := rfl
theorem kept_tt (i : Nat) : keptAt [true, true] i = true := by
  unfold keptAt
  have : i % 2 = 0 ∨ i % 2 = 1 := by omega
  show (false || [true, true].getD (i % 2) false) = true
  rcases this with e | e <;> rw [e] <;> rfl
theorem kept_f (i : Nat) : keptAt [false] i = false := by
  unfold keptAt
  show (false || [false].getD (i % 1) false) = false
  rw [Nat.mod_one]; rfl
/-- int(uint(n) % z). -/
theorem mod_in (n z : Int) (hz : 0 < z) (hz1 : z ≤ 100) : IntKind.u64.wrap n % z = IntKind.u64.wrap n % z ∧ 0 ≤ IntKind.u64.wrap n % z ∧ IntKind.u64.wrap n % z < z :=
  ⟨rfl, Int.emod_nonneg _ (by omega), Int.emod_lt_of_pos _ hz⟩

/-- A read of a disk that is up. -/
theorem many_rd {B : Nat} {w : World} {L : List (Nat × DS)} (h : Many B w L) (hB : B ≤ w.heap.size) {i g : Nat} {s : DS} (hi : L[i]? = some (g, s)) {z : Int} {k : Nat} (hk : KS z s k) (n : Int) (h0 : 0 ≤ n) (h1 : n < z) :
    Calls Try.prog 14 #[.pointer (some ⟨g, 0, none⟩), .int .i64 n] w fun e w' => ∃ A c, e = .returned (.tuple #[.slice A 256 c, .int .i64 0]) ∧ Bytes w' A (rd s n) ∧ Many B w' (L.set i (g, { s with a0 := wrap64 (s.a0 + 1) })) ∧ Below B w w' ∧ BKA w w' ∧ (rd s n).length = 256 := by
  obtain ⟨e1, _⟩ := hk.read h0 h1
  have hl := (many_len h hi n).1
  have e2 : readL s n = rd s n := by unfold readL; rw [e1, if_pos rfl]
  refine (many_read h hB hi n).mono ?_
  rintro e w' ⟨A, c, rfl, _, h2, h3, h4, h5⟩
  rw [e1] at h3 ⊢
  rw [e2, hl]
  rw [e2] at h2
  exact ⟨A, c, rfl, h2, h3, h4, h5, rfl⟩
theorem same_sec (A B : Option Addr) (a b : List Int) (c d : Nat) (w : World) (ha : Bytes w A a) (hb : Bytes w B b) (h1 : a.length = 256) (h2 : b.length = 256) (e : a = b) :
    Calls Try.prog 16 #[.slice A 256 c, .slice B 256 d] w fun e w' => e = .returned (.bool true) ∧ Below w.heap.size w w' := by
  have := same_b A B a b c d w ha.1 hb.1 (by omega)
  rw [h1, h2] at this
  refine this.mono ?_
  rintro e' w' ⟨rfl, hb'⟩
  exact ⟨ret_bool (by unfold sameB; simpa using e), hb'⟩

set_option maxRecDepth 8000 in
set_option maxHeartbeats 4000000 in
theorem keeps_walk (A : Option Addr) (l : List OpD) (c : Nat) (w : World) (h : Ops w A l) (hl : l.length ≤ 9223372036854775807) :
    Calls Try.prog 4 #[.slice A l.length c] w fun e w' => e = .returned (.bool true) ∧ Below w.heap.size w w' := by
  go_enter Try.func4, Try.ntmps4
  go_wp2_with fail
  refine (awake_any w).mono ?_
  rintro e w1 ⟨rfl, hb1⟩
  go_wp2_with fail
  refine (few_any A l c w1 (h.below hb1) hl).mono ?_
  rintro e w2 ⟨b, rfl, rfl, hfew⟩
  cases b with
  | false =>
    clear hfew
    go_wp2_with fail
    refine (awake_any w1).mono ?_
    rintro e w2 ⟨rfl, hb2⟩
    go_wp2
    go_ret
    exact ⟨rfl, hb1.trans (hb2.mono hb1.size)⟩
  | true =>
    obtain ⟨hl60, _⟩ := hfew rfl
    clear hfew
    have m1 : Many w.heap.size w1 [] := Many.nil _ _
    go_wp2_with fail
    refine (many_new m1 hb1.size 6).mono ?_
    rintro e w2 ⟨g, rfl, m2, hb2⟩
    have B2 := hb1.trans (hb2.mono hb1.size)
    clear hb1 hb2 m1
    have ks0 := KS.new 6 (by decide) (by decide)
    go_wp2_with fail
    refine (many_cut (i := 0) m2 B2.size rfl none [] 0 (by decide) (by decide) (by decide) Cells.nil (by decide)).mono ?_
    rintro e w3 ⟨g2, rfl, m3, hb3⟩
    have B3 := B2.trans (hb3.mono B2.size)
    have hnow0 : (cutS (newDS 6) []).now = (newDS 6).lasts := ks0.cutAll [] kept_nil
    have ks2 := ks0.cut []
    clear B2 hb3 m2
    go_wp2
    go_loopw [5, 4] (fun i y wr => ∃ (k : Nat) (s : DS) (g2 : Nat) (s2 : DS), i = .int .i64 k ∧ y = .pointer (some ⟨g2, 0, none⟩) ∧ k ≤ l.length ∧ KS 6 s k ∧ KS 6 s2 0 ∧ s2.now = s.lasts ∧ Many w.heap.size wr [(g, s), (g2, s2)] ∧ Below w.heap.size w wr)
      (fun i _ _ => l.length - (intOf i).toNat)
    case atStart => exact ⟨0, _, _, _, rfl, rfl, Nat.zero_le _, ks0, ks2, hnow0, m3, B3⟩
    case round =>
      obtain ⟨k, s, g2, s2, rfl, rfl, hk, hks, hks2, hnow, hM, hB⟩ := hrel
      clear ks0 m3 B3 hnow0 ks2
      by_cases hlt : k < l.length
      · have hgk : (k : Int) < (l.length : Int) := by omega
        obtain ⟨b, off, rfl, hb, c0, c1, c2, c3⟩ := (h.below hB).at_ hlt
        have hb0 : b < w.heap.size := by
          obtain ⟨b', off', e', hb', _⟩ := h.at_ hlt
          injection e' with e'
          injection e' with e1 e2
          omega
        obtain ⟨kd, hkd⟩ : ∃ x, (l[k]).kind = x := ⟨_, rfl⟩
        obtain ⟨n, hn⟩ : ∃ x, (l[k]).n = x := ⟨_, rfl⟩
        obtain ⟨m, hm⟩ : ∃ x, (l[k]).m = x := ⟨_, rfl⟩
        rw [hkd] at c0
        rw [hn] at c1
        rw [hm] at c2
        clear hkd hn hm c3
        have hs0 := hB.size
        obtain ⟨q, hq⟩ : ∃ q, (IntKind.u64.wrap n).tmod 6 = q := ⟨_, rfl⟩
        have hq0 : 0 ≤ q ∧ q < 6 := by
          have h1 : 0 ≤ IntKind.u64.wrap n := by rw [IntKind.wrap_u64]; omega
          rw [← hq, Int.tmod_eq_emod_of_nonneg h1]
          omega
        have hq1 : IntKind.u64.wrap q = q := by rw [IntKind.wrap_u64]; omega
        have hq2 : IntKind.i64.wrap q = q := by rw [IntKind.wrap_i64]; omega
        obtain ⟨hw1, hks'⟩ := hks.write hq0.1 hq0.2 (secL_len m)
        have HW : Hid (∀ (w4 : World) (A : Option Addr), Many w.heap.size w4 [(g, s), (g2, s2)] → Bytes w4 A (secL m) → w.heap.size ≤ w4.heap.size → Calls Try.prog 11 #[.pointer (some ⟨g, 0, none⟩), .int .i64 q, .slice A 256 256] w4 fun e w' => e = .returned (.int .i64 0) ∧ Many w.heap.size w' [(g, wroteS s q (secL m)), (g2, s2)] ∧ Below w.heap.size w4 w') := Lib.hid fun w4 A h1 h2 h3 => by
          have := many_write (i := 0) h1 h3 rfl q A (secL m) 256 (by rw [hks.fuse]; decide) h2 (secL_oct m) (by have := hks.pend; omega) (by rw [secL_len]; decide)
          rw [secL_len, hw1] at this
          exact this.mono fun e w' x => ⟨x.1, x.2.1, x.2.2.1⟩
        clear hw1
        have HKS := Lib.hid hks'
        have HNOW := Lib.hid hnow
        clear hks' hnow
        go_wp2
        go_region_held3 (fun w' => w'.cell? ⟨b, off + k * 4 + 1, none⟩ = some (.int .i64 n) ∧ w'.cell? ⟨b, off + k * 4 + 2, none⟩ = some (.int .i64 m)) (go_keep)
          (first
            | (go_at_call 12; refine (sector_any m _).mono ?_; rintro e w4 ⟨rfl, hs4, hb4⟩; have hk1 := fun (p : Addr) (hp : p.block < w.heap.size) => hb4.cell (p := p) (by exact Nat.lt_of_lt_of_le hp hs0))
            | (go_at_call 11; refine (HW.out _ _ (by exact hM.drew.below hb4) (by exact Own.sec hs4) (by exact Nat.le_trans hs0 hb4.size)).mono ?_; rintro e w5 ⟨rfl, hM5, hb5⟩; have hk2 := fun (p : Addr) (hp : p.block < w.heap.size) => hb5.cell (p := p) hp))
        all_goals
          have c05 : w5.cell? ⟨b, off + k * 4, none⟩ = some (.int .i64 kd) := (hk2 _ hb0).trans ((hk1 _ hb0).trans c0)
          have hB5 : Below w.heap.size w w5 := (hB.drew.trans (hb4.mono hs0)).trans hb5
          clear c0 c1 c2 hk1 hk2 hb4 hb5 hs4 hM hB hb hq hq1 hq2 HW
          by_cases hk3 : kd = 3
          · have hkb : (kd == 3) = true := by simpa using hk3
            clear hk3
            have hks' := HKS.out
            obtain ⟨hsy, hks3⟩ := hks'.sync
            have hcS := many_sync (i := 0) hM5 hB5.size rfl (by rw [hks'.fuse]; decide) (by have := hks'.pend; omega)
            rw [hsy] at hcS
            have HKS3 := Lib.hid hks3
            clear hks' hsy hks3
            go_wp2_with fail
            refine hcS.mono ?_
            rintro e w6 ⟨rfl, hM6, hb6, _⟩
            have hB6 := hB5.trans hb6
            have hks3 := HKS3.out
            have hcC := many_cut (i := 0) hM6 hB6.size rfl none [] 0 (by rw [hks3.size]; decide) (by rw [hks3.size]; decide) (by exact Nat.zero_le _) Cells.nil (by decide)
            have hc1 : (cutS (syncedS (wroteS s q (secL m))) []).now = (syncedS (wroteS s q (secL m))).lasts := by
              rw [hks3.cutAll [] kept_nil, hks3.now]
              rfl
            have HC1 := Lib.hid hc1
            have hks4 := hks3.cut []
            have HKS4 := Lib.hid hks4
            clear hcS hM5 hB5 hb6 hks3 hc1 hks4
            go_wp2_with fail
            refine hcC.mono ?_
            rintro e w7 ⟨g3, rfl, hM7, hb7⟩
            have hB7 := hB6.trans (hb7.mono hB6.size)
            have hM8 : Many w.heap.size w7 [(g, syncedS (wroteS s q (secL m))), (g3, cutS (syncedS (wroteS s q (secL m))) [])] :=
              hM7.drop (fun i => if i = 0 then 0 else 2) (fun i j hi hj e => by simp at hi hj; split at e <;> split at e <;> omega) (fun i hi => by split <;> simp) (fun i hi => by
                simp at hi
                rcases (by omega : i = 0 ∨ i = 1) with rfl | rfl <;> rfl)
            clear hcC hM6 hM7 hB6 hb7
            go_wp2
            go_roundw
            case rel => exact ⟨k + 1, _, g3, _, by go_num, rfl, by omega, HKS3.out, HKS4.out, HC1.out, hM8, hB7⟩
            case measure => simp [intOf]; omega
          · have hkb : (kd == 3) = false := by simpa using hk3
            clear hk3
            go_wp2
            go_roundw
            case rel => exact ⟨k + 1, _, g2, s2, by go_num, rfl, by omega, HKS.out, hks2, HNOW.out, hM5, hB5⟩
            case measure => simp [intOf]; omega
      · have hke : k = l.length := by omega
        subst hke
        have hgk : ¬ (l.length : Int) < (l.length : Int) := by omega
        have hfl : ∀ k, s.lasts k = s.lasts k := fun _ => rfl
        clear hlt hk hfl
        have HA : Hid ((cutS s []).now = s.now) := Lib.hid (hks.cutAll [] kept_nil)
        have HB : Hid ((cutS s [false]).now = s.lasts) := Lib.hid (cutNo s [false] kept_f)
        have HC : Hid ((cutS s [true, true]).now = s.now) := Lib.hid (hks.cutAll [true, true] kept_tt)
        have HN := Lib.hid hnow
        clear hnow
        have z0 : 0 ≤ s.size := by rw [hks.size]; decide
        have z1 : s.size ≤ 65536 := by rw [hks.size]; decide
        have z2 : s.pend.length ≤ 1000000000 := by have := hks.pend; omega
        go_wp2_with fail
        refine (many_cut (i := 0) hM hB.size rfl none [] 0 z0 z1 z2 Cells.nil (by decide)).mono ?_
        rintro e w4 ⟨gA, rfl, hM4, hb4⟩
        have hB4 := hB.trans (hb4.mono hB.size)
        clear hM hb4 hB
        go_wp2_with fail
        have hM5 : Many w.heap.size (w4.alloc (.cells #[.bool false] 4)) ([(g, s), (g2, s2)] ++ [(gA, cutS s [])]) := hM4.below ((Below.refl _ _).alloc (Nat.le_refl _) _)
        have hB5 : Below w.heap.size w (w4.alloc (.cells #[.bool false] 4)) := hB4.alloc hB4.size _
        refine (many_cut (i := 0) hM5 hB5.size rfl _ [false] 1 z0 z1 z2 (by exact (cells_blk w4 #[.bool false] 4).whole) (by decide)).mono ?_
        rintro e w5 ⟨gB, rfl, hM6, hb6⟩
        have hB6 := hB5.trans (hb6.mono hB5.size)
        clear hM4 hM5 hb6 hB5 hB4
        go_wp2_with fail
        have hM7 : Many w.heap.size (w5.alloc (.cells #[.bool true, .bool true] 4)) ([(g, s), (g2, s2)] ++ [(gA, cutS s [])] ++ [(gB, cutS s [false])]) := hM6.below ((Below.refl _ _).alloc (Nat.le_refl _) _)
        have hB7 : Below w.heap.size w (w5.alloc (.cells #[.bool true, .bool true] 4)) := hB6.alloc hB6.size _
        refine (many_cut (i := 0) hM7 hB7.size rfl _ [true, true] 2 z0 z1 z2 (by exact (cells_blk w5 #[.bool true, .bool true] 4).whole) (by decide)).mono ?_
        rintro e w6 ⟨gC, rfl, hM8, hb8⟩
        have hB8 := hB7.trans (hb8.mono hB7.size)
        have hM9 : Many w.heap.size w6 [(g, s), (g2, s2), (gA, cutS s []), (gB, cutS s [false]), (gC, cutS s [true, true])] := hM8
        have kA := hks.cut []
        have kB := hks.cut [false]
        have kC := hks.cut [true, true]
        clear hM6 hM7 hM8 hb8 hB7 hB6
        obtain ⟨fn, hfn⟩ : ∃ f, s.now = f := ⟨_, rfl⟩
        obtain ⟨fl, hfl⟩ : ∃ f, s.lasts = f := ⟨_, rfl⟩
        have eA := HA.out
        have eB := HB.out
        have eC := HC.out
        have eN := HN.out
        rw [hfn] at eA eC
        rw [hfl] at eB eN
        go_wp2
        go_loopw [9] (fun i wr => ∃ (k : Nat) (s0 s1 s2 s3 s4 : DS), i = .int .i64 k ∧ k ≤ 6 ∧ KS 6 s0 l.length ∧ KS 6 s1 0 ∧ KS 6 s2 0 ∧ KS 6 s3 0 ∧ KS 6 s4 0 ∧ s0.now = fn ∧ s1.now = fl ∧ s2.now = fn ∧ s3.now = fl ∧ s4.now = fn ∧ Many w.heap.size wr [(g, s0), (g2, s1), (gA, s2), (gB, s3), (gC, s4)] ∧ Below w.heap.size w wr)
          (fun i _ => 6 - (intOf i).toNat)
        case atStart => exact ⟨0, _, _, _, _, _, rfl, by omega, hks, hks2, kA, kB, kC, hfn, eN, eA, eB, eC, hM9, hB8⟩
        case round =>
          obtain ⟨k, s0, s1, s2, s3, s4, rfl, hk, k0, k1, k2, k3, k4, f0, f1, f2, f3, f4, hM, hB⟩ := hrel
          clear hks hks2 kA kB kC eA eB eC eN hM9 hB8 z0 z1 z2 HA HB HC HN hfn hfl
          by_cases hlt : k < 6
          · have hgk : (k : Int) < 6 := by omega
            have hp0 : (0 : Int) ≤ (k : Int) := by omega
            have r02 : rd s0 k = rd s2 k := by unfold rd; rw [f0, f2]
            have r04 : rd s0 k = rd s4 k := by unfold rd; rw [f0, f4]
            have r31 : rd s3 k = rd s1 k := by unfold rd; rw [f3, f1]
            have R02 := Lib.hid r02
            have R04 := Lib.hid r04
            have R31 := Lib.hid r31
            clear r02 r04 r31
            have K0 := (k0.read hp0 hgk).2
            have K1 := (k1.read hp0 hgk).2
            have K2 := (k2.read hp0 hgk).2
            have K3 := (k3.read hp0 hgk).2
            have K4 := (k4.read hp0 hgk).2
            go_wp2_with fail
            refine (many_rd (i := 0) hM hB.size rfl k0 k hp0 hgk).mono ?_
            rintro e wa ⟨A0, c0, rfl, b0, Ma, ba, _, l0⟩
            have Ba := hB.trans ba
            have La := Lib.hid l0
            clear hM ba l0
            go_wp2_with fail
            refine (many_rd (i := 2) Ma Ba.size rfl k2 k hp0 hgk).mono ?_
            rintro e wb ⟨A2, c2, rfl, b2, Mb, bb, kb, l2⟩
            have Bb := Ba.trans bb
            have b0 := b0.keep kb.b
            have Lb := Lib.hid l2
            clear Ma bb kb l2 Ba
            go_wp2_with fail
            refine (many_rd (i := 4) Mb Bb.size rfl k4 k hp0 hgk).mono ?_
            rintro e wc ⟨A4, c4, rfl, b4, Mc, bc, kc, l4⟩
            have Bc := Bb.trans bc
            have b0 := b0.keep kc.b
            have b2 := b2.keep kc.b
            have Lc := Lib.hid l4
            clear Mb bc kc l4 Bb
            go_wp2_with fail
            refine (many_rd (i := 3) Mc Bc.size rfl k3 k hp0 hgk).mono ?_
            rintro e wd ⟨A3, c3, rfl, b3, Md, bd, kd, l3⟩
            have Bd := Bc.trans bd
            have b0 := b0.keep kd.b
            have b2 := b2.keep kd.b
            have b4 := b4.keep kd.b
            have Ld := Lib.hid l3
            clear Mc bd kd l3 Bc
            go_wp2_with fail
            refine (many_rd (i := 1) Md Bd.size rfl k1 k hp0 hgk).mono ?_
            rintro e we ⟨A1, c1, rfl, b1, Me, be, ke, l1⟩
            have Be := Bd.trans be
            have b0 := b0.keep ke.b
            have b2 := b2.keep ke.b
            have b4 := b4.keep ke.b
            have b3 := b3.keep ke.b
            have Le := Lib.hid l1
            clear Md be ke l1 Bd
            go_wp2_with fail
            refine (same_sec A0 A2 _ _ c0 c2 we b0 b2 La.out Lb.out R02.out).mono ?_
            rintro e wf ⟨rfl, bf⟩
            have Bf := Be.trans (bf.mono Be.size)
            have Mf := Me.below bf
            have kf := BK.of_below bf
            have b0 := b0.keep kf
            have b4 := b4.keep kf
            have b3 := b3.keep kf
            have b1 := b1.keep kf
            clear Me Be bf kf b2
            go_wp2_with fail
            refine (same_sec A0 A4 _ _ c0 c4 wf b0 b4 La.out Lc.out R04.out).mono ?_
            rintro e wg ⟨rfl, bg⟩
            have Bg := Bf.trans (bg.mono Bf.size)
            have Mg := Mf.below bg
            have kg := BK.of_below bg
            have b3 := b3.keep kg
            have b1 := b1.keep kg
            clear Mf Bf bg kg b0 b4
            go_wp2_with fail
            refine (same_sec A3 A1 _ _ c3 c1 wg b3 b1 Ld.out Le.out R31.out).mono ?_
            rintro e wh ⟨rfl, bh⟩
            have Bh := Bg.trans (bh.mono Bg.size)
            have Mh := Mg.below bh
            clear Mg Bg bh b3 b1
            go_wp2_with fail
            go_roundw
            case rel => exact ⟨k + 1, _, _, _, _, _, by go_num, by omega, K0, K1, K2, K3, K4, f0, f1, f2, f3, f4, Mh, Bh⟩
            case measure => simp [intOf]; omega
          · have hgk : ¬ (k : Int) < 6 := by omega
            go_wp2
            go_ret
            exact ⟨rfl, hB⟩
end Go.Proofs.Ytaimohidpppfeaa
