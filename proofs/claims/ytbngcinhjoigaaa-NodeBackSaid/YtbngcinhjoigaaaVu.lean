/-
  The reference's reader of pages: number, some.
-/
import Derived.Test.YtbngcinhjoigaaaVs
import Derived.Test.YtbngcinhjoigaaaVo
import Derived.Deep.DeepCutAuto
set_option linter.unusedVariables false
namespace Go.Proofs.Ytbngcinhjoigaaa
open Go.RowKit

/-- Block g: a reader of the bytes l, which lie below B, at the place p. -/
def RdAt (w : World) (B g : Nat) (l : List Int) (p : Nat) : Prop := ∃ A c, Blk w g 63 #[.slice A l.length c, .int .i64 p] ∧ Cells w B A (U8 l) ∧ l.length ≤ c ∧ c ≤ 9223372036854775807
theorem RdAt.below {w w' : World} {B g C p : Nat} {l : List Int} (h : RdAt w B g l p) (hb : Below C w w') (hg : g < C) (hB : B ≤ C) : RdAt w' B g l p := by
  obtain ⟨A, c, h1, h2, h3⟩ := h
  exact ⟨A, c, h1.below hb hg, h2.keep fun p hp => hb.cell (p := p) (by omega), h3⟩
theorem RdAt.chg {w w' : World} {B g p : Nat} {l : List Int} {S : Nat → Prop} (h : RdAt w B g l p) (hc : Chg w w' S) (hg : ¬ S g) (hB : ∀ k, k < B → ¬ S k) : RdAt w' B g l p := by
  obtain ⟨A, c, h1, h2, h3⟩ := h
  refine ⟨A, c, (hc.block g h1.lt hg).trans h1, fun k u hu => ?_, h3⟩
  obtain ⟨b, off, e, hb, hcell⟩ := h2 k u hu
  exact ⟨b, off, e, hb, (World.cell?_of_block (a := ⟨b, off + k, none⟩) (hc.block b (World.block_lt_of_cell? w _ hcell) (hB b hb))).trans hcell⟩
theorem RdAt.drew {w : World} {B g p : Nat} {l : List Int} (h : RdAt w B g l p) : RdAt w.drew B g l p := h
theorem RdAt.drewN {w : World} {B g p : Nat} {l : List Int} (h : RdAt w B g l p) (n : Nat) : RdAt (w.drewN n) B g l p := h
theorem RdAt.bk {w w' : World} {B g p : Nat} {l : List Int} (h : RdAt w B g l p) (hc : Chg w w' (fun k => k = g)) : BK w w' := by
  obtain ⟨A, c, hb, _⟩ := h
  exact BK.chg hc hb (by decide)
/-- The place moved. -/
theorem RdAt.step {w : World} {B g p : Nat} {l : List Int} (h : RdAt w B g l p) (hB : B ≤ g) {x : Value} {q : Nat} (hx : x = .int .i64 q) : RdAt (w.setCell ⟨g, 1, none⟩ x) B g l q := by
  subst hx
  obtain ⟨A, c, h1, h2, h3⟩ := h
  exact ⟨A, c, h1.set_ 1 _, h2.setCell (p := ⟨g, 1, none⟩) hB _, h3⟩

theorem rnum_zero (l : List Int) (p : Nat) : rnum l p 0 = 0 := by simp [rnum, bigN]
theorem rnum_succ (l : List Int) (p k : Nat) : rnum l p (k + 1) = rnum l p k * 256 + l.getD (p + k) 0 := by
  have hlen : k < (l.drop p ++ List.replicate (k + 1) (0 : Int)).length := by simp; omega
  have h1 : (l.drop p ++ List.replicate (k + 1) (0 : Int)).take k = (l.drop p ++ List.replicate k (0 : Int)).take k := by
    rw [List.replicate_succ', ← List.append_assoc, List.take_append_of_le_length (by simp)]
  have h2 : (l.drop p ++ List.replicate (k + 1) (0 : Int))[k] = l.getD (p + k) 0 := by
    rw [List.getD_eq_getElem?_getD]
    by_cases hk : k < (l.drop p).length
    · rw [List.getElem_append_left hk, List.getElem_drop, List.getElem?_eq_getElem (by simp at hk; omega)]; rfl
    · rw [List.getElem_append_right (by omega), List.getElem_replicate, List.getElem?_eq_none (by simp at hk; omega)]; rfl
  unfold rnum
  rw [take_snoc _ k hlen, bigN_snoc, h1, h2]
theorem rnum_bound {l : List Int} (ho : Oct l) (p : Nat) : ∀ k, 0 ≤ rnum l p k ∧ rnum l p k < 256 ^ k := fun k => by
  have := bigN_bound (l := (l.drop p ++ List.replicate k 0).take k) (Oct.take (Oct.app (ho.drop p) fun x hx => by have := (List.mem_replicate.1 hx).2; omega) k)
  rw [List.length_take, Nat.min_eq_left (by simp)] at this
  exact this
theorem rnum_nat {l : List Int} (ho : Oct l) (p n : Nat) : ∃ N : Nat, rnum l p n = (N : Int) ∧ (N : Int) < 256 ^ n := by
  obtain ⟨h1, h2⟩ := rnum_bound ho p n
  obtain ⟨N, hN⟩ := Int.eq_ofNat_of_zero_le h1
  exact ⟨N, hN, by rw [← hN]; exact h2⟩

/-- What number answers. -/
def RNumRes (w : World) (B g : Nat) (l : List Int) (p n : Nat) (e : Ending) (w' : World) : Prop :=
  e = .returned (.int .i64 (rnum l p n)) ∧ RdAt w' B g l (p + n) ∧ Chg w w' (fun k => k = g)
set_option maxHeartbeats 2000000 in
theorem rnumber_any (B g : Nat) (l : List Int) (p n : Nat) (w : World) (h : RdAt w B g l p) (hB : B ≤ g) (hn : n ≤ 5) (hp : p ≤ 100000000) (hr : l.length ≤ 100000000) (ho : Oct l) :
    Calls Try.prog 32 #[.pointer (some ⟨g, 0, none⟩), .int .i64 n] w (RNumRes w B g l p n) := by
  go_enter Try.func32, Try.ntmps32
  go_wp2
  go_loopw [5, 6] (fun x i wr => ∃ k : Nat, i = .int .i64 k ∧ k ≤ n ∧ x = .int .i64 (rnum l p k) ∧ RdAt wr B g l (p + k) ∧ Chg w wr (fun k => k = g))
    (fun _ i _ => n - (intOf i).toNat)
  case atStart => exact ⟨0, rfl, Nat.zero_le _, by rw [rnum_zero], h, Chg.refl _ _⟩
  case round =>
    obtain ⟨k, rfl, hk, rfl, hR, hc⟩ := hrel
    by_cases hlt : k < n
    · have hkI : (k : Int) < (n : Int) := by omega
      have HS := Lib.hid (rnum_succ l p k)
      have hbd := rnum_bound ho p k
      have hpw := pow_le_42 k (by omega)
      have hx0 := hbd.1
      have hx1 : rnum l p k < 1099511627776 := by omega
      clear hbd hpw
      generalize rnum l p k = x at *
      have HR := Lib.hid hR
      obtain ⟨A, c, hblk, hcl, hlc, hcm⟩ := hR
      have c0 : wr.cell? ⟨g, 0, none⟩ = some (.slice A l.length c) := hblk.cell 0
      have c1 : wr.cell? ⟨g, 1, none⟩ = some (.int .i64 ((p + k : Nat) : Int)) := hblk.cell 1
      have f1 := hblk.free 1
      by_cases hin : p + k < l.length
      · have hinI : ((p + k : Nat) : Int) < (l.length : Int) := by omega
        have hin2 : decide (((p + k : Nat) : Int) < (l.length : Int)) = true := decide_eq_true hinI
        have hp0 : (0 : Int) ≤ ((p + k : Nat) : Int) := by omega
        obtain ⟨b, o, rfl, hb, hcell⟩ := hcl.u8 hin
        have hoct := ho.at_ (List.getElem?_eq_getElem hin)
        rw [List.getD_eq_getElem?_getD, List.getElem?_eq_getElem hin] at HS
        generalize l[p + k] = d at *
        obtain ⟨q, hq⟩ : ∃ q, p + k = q := ⟨_, rfl⟩
        rw [hq] at c1 hcell hinI hin2 hp0
        have HQ := Lib.hid hq
        have hq2 : q ≤ 100000005 := by omega
        clear hq hin
        go_wp2
        go_quiet (fail)
        go_wp2
        go_quiet (fail)
        go_wp2
        go_roundw
        case rel => exact ⟨k + 1, by go_num, by omega, by rw [HS.out]; rfl, (HR.out.drewN _).step hB (by have := HQ.out; go_num), (hc.trans (Chg.drewN wr _ _) fun i hi => .inl hi).trans (Chg.setCell _ ⟨g, 1, none⟩ _) fun i hi => .inl hi⟩
        case measure => simp [intOf]; omega
      · have hinI : ¬ ((p + k : Nat) : Int) < (l.length : Int) := by omega
        have hin2 : decide (((p + k : Nat) : Int) < (l.length : Int)) = false := decide_eq_false hinI
        rw [List.getD_eq_getElem?_getD, List.getElem?_eq_none (by omega)] at HS
        obtain ⟨q, hq⟩ : ∃ q, p + k = q := ⟨_, rfl⟩
        rw [hq] at c1 hinI hin2
        have HQ := Lib.hid hq
        have hq2 : q ≤ 100000005 := by omega
        clear hq hin
        go_wp2
        go_quiet (fail)
        go_wp2
        go_roundw
        case rel => exact ⟨k + 1, by go_num, by omega, by rw [HS.out]; simp, (HR.out.drewN _).step hB (by have := HQ.out; go_num), (hc.trans (Chg.drewN wr _ _) fun i hi => .inl hi).trans (Chg.setCell _ ⟨g, 1, none⟩ _) fun i hi => .inl hi⟩
        case measure => simp [intOf]; omega
    · obtain rfl : k = n := by omega
      obtain ⟨x, hx⟩ : ∃ x, rnum l p k = x := ⟨_, rfl⟩
      rw [hx]
      have HE := Lib.hid hx
      have HR := Lib.hid hR
      have HC := Lib.hid hc
      clear hx
      clear hR hc
      go_wp2
      go_ret
      exact ⟨ret_int HE.out.symm, HR.out, HC.out⟩

/-- What some answers. -/
def RSomeRes (w : World) (B g : Nat) (l : List Int) (p n : Nat) (e : Ending) (w' : World) : Prop :=
  ∃ v, e = .returned v ∧ Own w' w.heap.size v (rsome l p n) ∧ RdAt w' B g l (p + (rsome l p n).length) ∧ Chg w w' (fun k => k = g)
/-- The state ahead of the byte k. -/
structure SI (w : World) (B g : Nat) (l : List Int) (p k : Nat) (v : Value) (wr : World) : Prop where
  own : Own wr w.heap.size v ((l.drop p).take k)
  rd : RdAt wr B g l (p + k)
  chg : Chg w wr (fun i => i = g ∨ w.heap.size ≤ i)
  lt : g < w.heap.size
theorem SI.done {w wr : World} {B g p k n : Nat} {l : List Int} {v : Value} (h : SI w B g l p k v wr) (hk : k ≤ n) (hkl : k = 0 ∨ p + k ≤ l.length) (he : k = n ∨ l.length ≤ p + k) : RSomeRes w B g l p n (.returned v) wr := by
  have h1 : rsome l p n = (l.drop p).take k := by
    unfold rsome
    rcases he with rfl | he
    · rfl
    · rw [List.take_of_length_le (by simp; omega), List.take_of_length_le (by simp; omega)]
  have h2 : (rsome l p n).length = k := by
    rw [h1, List.length_take, List.length_drop]
    omega
  refine ⟨v, rfl, by rw [h1]; exact h.own, by rw [h2]; exact h.rd, h.chg.os, h.chg.tape, h.chg.output, h.chg.size, fun i hi hne => h.chg.block i hi (fun x => ?_)⟩
  rcases x with x | x
  · exact hne x
  · omega
theorem SI.next {w wr w2 : World} {B g p k : Nat} {l : List Int} {v v2 : Value} {x : Int} (h : SI w B g l p k v wr) (hB : B ≤ g) (hkl : p + k < l.length) (hx : l[p + k] = x) (hown : Own w2 w.heap.size v2 ((l.drop p).take k ++ [x])) (hg : Grew wr v w2 v2) {u : Value} (hu : u = .int .i64 ((p + (k + 1) : Nat) : Int)) : SI w B g l p (k + 1) v2 (w2.setCell ⟨g, 1, none⟩ u) := by
  have hlt := h.lt
  have hS := h.chg.size
  obtain ⟨A, c, hblk, _⟩ := h.rd
  have hne : some g ≠ v.ownBlock := h.own.other hblk (by decide)
  have hc2 : Chg wr w2 (fun i => i ≠ g ∧ w.heap.size ≤ i) := (Chg.grown hg.by_).mono fun i hi e => ⟨fun e2 => hne (by rw [← e2]; exact e.symm), (h.own.lt i e).1⟩
  have hR2 := h.rd.chg hc2 (fun e => e.1 rfl) (fun i hi e => by omega)
  have hR2' := hR2
  obtain ⟨A2, c2, hblk2, _⟩ := hR2
  refine ⟨?_, hR2'.step hB hu, ?_, hlt⟩
  · refine own_as (hown.store hblk2 (by decide) 1 u) ?_
    rw [take_snoc _ k (by simp; omega), List.getElem_drop]
    rw [hx]
  · exact (h.chg.trans hc2 fun i hi => .inl (.inr hi.2)).trans (Chg.setCell w2 ⟨g, 1, none⟩ u) fun i hi => .inl (.inl hi)
theorem SI.grown {w wr w2 : World} {B g p k : Nat} {l : List Int} {v v2 : Value} (h : SI w B g l p k v wr) (hB : B ≤ g) (hg : Grew wr v w2 v2) : RdAt w2 B g l (p + k) := by
  have hlt := h.lt
  obtain ⟨A, c, hblk, _⟩ := h.rd
  have hne : some g ≠ v.ownBlock := h.own.other hblk (by decide)
  have hc2 : Chg wr w2 (fun i => i ≠ g ∧ w.heap.size ≤ i) := (Chg.grown hg.by_).mono fun i hi e => ⟨fun e2 => hne (by rw [← e2]; exact e.symm), (h.own.lt i e).1⟩
  exact h.rd.chg hc2 (fun e => e.1 rfl) (fun i hi e => by omega)
theorem RdAt.cell {w : World} {B g p : Nat} {l : List Int} (h : RdAt w B g l p) : w.cell? ⟨g, 1, none⟩ = some (.int .i64 (p : Int)) ∧ w.frozen? ⟨g, 1, none⟩ = false := by
  obtain ⟨A, c, hblk, _⟩ := h
  exact ⟨hblk.cell 1, hblk.free 1⟩
theorem Grew.undrew {w w' : World} {v v' : Value} (h : Grew w.drew v w' v') : Grew w v w' v' := ⟨⟨h.by_.os, h.by_.tape, h.by_.output, h.by_.size, h.by_.block⟩, h.at_⟩
theorem Own.undrew {w : World} {base : Nat} {v : Value} {l : List Int} (h : Own w.drew base v l) : Own w base v l := h
theorem SI.drewN {w wr : World} {B g p k : Nat} {l : List Int} {v : Value} (h : SI w B g l p k v wr) (n : Nat) : SI w B g l p k v (wr.drewN n) :=
  ⟨h.own.drewN n, h.rd.drewN n, h.chg.trans (Chg.drewN wr n _) fun i hi => .inl hi, h.lt⟩
theorem SI.alloc {w wr : World} {B g p k : Nat} {l : List Int} {v : Value} (h : SI w B g l p k v wr) (o : Obj) : SI w B g l p k v (wr.alloc o) := by
  have := h.lt
  have := h.chg.size
  obtain ⟨A, c, hblk, hcl, r⟩ := h.rd
  exact ⟨h.own.alloc o, h.rd.chg (Chg.alloc wr o (fun _ => False)) id (fun _ _ => id), h.chg.trans (Chg.alloc wr o _) fun i hi => .inl hi, h.lt⟩

set_option maxRecDepth 8000 in
set_option maxHeartbeats 4000000 in
theorem rsome_any (B g : Nat) (l : List Int) (p n : Nat) (w : World) (h : RdAt w B g l p) (hB : B ≤ g) (hn : n ≤ 100000) (hp : p ≤ 100000000) (hr : l.length ≤ 100000000) (ho : Oct l) :
    Calls Try.prog 33 #[.pointer (some ⟨g, 0, none⟩), .int .i64 n] w (RSomeRes w B g l p n) := by
  have hglt : g < w.heap.size := by obtain ⟨_, _, hb, _⟩ := h; exact hb.lt
  go_enter Try.func33, Try.ntmps33
  go_wp2
  go_loopw [5, 6] (fun x i wr => ∃ k : Nat, i = .int .i64 k ∧ k ≤ n ∧ (k = 0 ∨ p + k ≤ l.length) ∧ SI w B g l p k x wr)
    (fun _ i _ => n - (intOf i).toNat)
  case atStart => exact ⟨0, rfl, Nat.zero_le _, .inl rfl, Own.nil _ _, h, Chg.refl _ _, hglt⟩
  case round =>
    obtain ⟨k, rfl, hk, hkl, hS⟩ := hrel
    have HS := Lib.hid hS
    obtain ⟨A, c, hblk, hcl, hlc, hcm⟩ := hS.rd
    have c0 : ∀ n, (wr.drewN n).cell? ⟨g, 0, none⟩ = some (.slice A l.length c) := fun _ => hblk.cell 0
    have c1 : ∀ n, (wr.drewN n).cell? ⟨g, 1, none⟩ = some (.int .i64 ((p + k : Nat) : Int)) := fun _ => hblk.cell 1
    have f1 := hblk.free 1
    clear hS
    by_cases hlt : k < n
    · have hkI : (k : Int) < (n : Int) := by omega
      have hkI2 : decide ((k : Int) < (n : Int)) = true := decide_eq_true hkI
      have e0 : wr.cell? ⟨g, 0, none⟩ = some (.slice A l.length c) := c0 0
      by_cases hin : p + k < l.length
      · have e1 : wr.cell? ⟨g, 1, none⟩ = some (.int .i64 ((p + k : Nat) : Int)) := c1 0
        have hinI : ((p + k : Nat) : Int) < (l.length : Int) := by omega
        have hin2 : decide (((p + k : Nat) : Int) < (l.length : Int)) = true := decide_eq_true hinI
        have hp0 : (0 : Int) ≤ ((p + k : Nat) : Int) := by omega
        obtain ⟨b, o, rfl, hb, hcell⟩ := hcl.u8 hin
        obtain ⟨x, hx⟩ : ∃ x, l[p + k] = x := ⟨_, rfl⟩
        rw [hx] at hcell
        have HX : Hid (∀ (w2 : World) (v v2 u : Value) (wr : World), SI w B g l p k v wr → Own w2 w.heap.size v2 ((l.drop p).take k ++ [x]) → Grew wr v w2 v2 → u = .int .i64 ((p + (k + 1) : Nat) : Int) → SI w B g l p (k + 1) v2 (w2.setCell ⟨g, 1, none⟩ u)) := Lib.hid fun w2 v v2 u wr h h1 h2 h3 => h.next hB hin hx h1 h2 h3
        have HLE : Hid (p + (k + 1) ≤ l.length) := Lib.hid (by omega)
        obtain ⟨q, hq⟩ : ∃ q, p + k = q := ⟨_, rfl⟩
        rw [hq] at e1 hcell hinI hin2 hp0
        have HQ := Lib.hid hq
        have hq2 : q ≤ 100000000 := by omega
        have hql : q < l.length := by omega
        clear hq hin hx c0 c1
        go_wp2
        go_quiet (fail)
        go_wp2
        have HS' := Lib.hid (HS.out.drewN nq)
        have e0' : (wr.drewN nq).cell? ⟨g, 0, none⟩ = some (.slice (some ⟨b, o, none⟩) l.length c) := e0
        have e1' : (wr.drewN nq).cell? ⟨g, 1, none⟩ = some (.int .i64 (q : Int)) := e1
        have hx' : (wr.drewN nq).cell? ⟨b, o + q, none⟩ = some (.int .u8 x) := hcell
        have hsz : w.heap.size ≤ (wr.drewN nq).heap.size := HS'.out.chg.size
        have hln : (List.take k (List.drop p l)).length ≤ 100000 := by simp; omega
        generalize wr.drewN nq = wd at *
        have hownA := (HS'.out.alloc (.cells #[.int .u8 x] 5)).own
        generalize List.take k (List.drop p l) = acc at *
        clear e0 e1 hcell hblk hcl f1 HS
        go_region_law (refine app_stepS rfl (.tmp 24) (.tmp 35) rfl w.heap.size u5 acc ?_ ?_ (wd.heap.size + 1) (some ⟨wd.heap.size, 0, none⟩) 1 [x] ?_ ?_ ?_ ?_ ?_; (simp [Act.eval]); (exact hownA.drew); (simp [Act.eval]); (exact (cells_new wd [x]).drew); (simp; omega); (simp; omega); intro A2 c2 w2 hown2 hg2; obtain ⟨q1, q2⟩ := ((HS'.out.alloc (.cells #[.int .u8 x] 5)).grown hB hg2.undrew).cell; rw [HQ.out] at q1)
        all_goals
          go_wp2
          go_roundw
          case rel => exact ⟨k + 1, by go_num, by omega, .inr HLE.out, HX.out _ _ _ _ _ (HS'.out.alloc (.cells #[.int .u8 x] 5)) hown2 hg2.undrew (by have := HQ.out; go_num)⟩
          case measure => simp [intOf]; omega
      · have e1 : wr.cell? ⟨g, 1, none⟩ = some (.int .i64 ((p + k : Nat) : Int)) := c1 0
        have hinI : ¬ ((p + k : Nat) : Int) < (l.length : Int) := by omega
        have hin2 : decide (((p + k : Nat) : Int) < (l.length : Int)) = false := decide_eq_false hinI
        have HF : Hid (∀ n', RSomeRes w B g l p n (.returned u5) (wr.drewN n')) := Lib.hid fun n' => (HS.out.drewN n').done hk hkl (.inr (by omega))
        generalize p + k = q at *
        go_wp2
        go_quiet (fail)
        go_wp2
        go_ret
        exact HF.out _
    · have hkI : ¬ (k : Int) < (n : Int) := by omega
      have hkI2 : decide ((k : Int) < (n : Int)) = false := decide_eq_false hkI
      have HF : Hid (∀ n', RSomeRes w B g l p n (.returned u5) (wr.drewN n')) := Lib.hid fun n' => (HS.out.drewN n').done hk hkl (.inl (by omega))
      go_wp2
      go_quiet (fail)
      go_wp2
      go_ret
      exact HF.out _
end Go.Proofs.Ytbngcinhjoigaaa
