/-
  The contract of the disk's Cut.
-/
import Derived.Test.YtcgnfkiimnpdcaaDd
set_option linter.unusedVariables false
namespace Go.Proofs.Ytcgnfkiimnpdcaa
open Go.RowKit
open Go.ChangeMaps (setBlock heap_setBlock_same heap_setBlock_other)

/-- Is the write number i kept? -/
def keptAt (keep : List Bool) (i : Nat) : Bool := keep.isEmpty || keep.getD (i % keep.length) false
/-- Those of the first k writes that are kept. -/
def keptW {α : Type} (qs : List α) (keep : List Bool) (k : Nat) : List α := ((qs.take k).zipIdx.filter (fun x => keptAt keep x.2)).map (·.1)
theorem keptW_succ {α : Type} (qs : List α) (keep : List Bool) (k : Nat) (h : k < qs.length) : keptW qs keep (k + 1) = keptW qs keep k ++ if keptAt keep k = true then [qs[k]] else [] := by
  unfold keptW
  rw [take_snoc' qs k h, List.zipIdx_append, List.filter_append, List.map_append]
  congr 1
  have hl : (qs.take k).length = k := by simp; omega
  simp only [hl, Nat.zero_add, List.zipIdx_singleton, List.filter_cons, List.filter_nil]
  split <;> simp

/-- The disk behind a cut. -/
def cutS (s : DS) (keep : List Bool) : DS :=
  ⟨s.size, applyW s.lasts (keptW s.pend keep s.pend.length), applyW s.lasts (keptW s.pend keep s.pend.length), [], -1, false, 0, 0, 0⟩

theorem run_range {P : Program} {T K E : TypeId} (hT : P.underlying T = some (.map K E)) {w : World} {g clk : Nat} {es : Array MapEntry} (hb : w.heap[g]? = some (.map es clk)) :
    (Instr.range T (.map (some g))).run P w = .ok (.pointer (some ⟨w.heap.size, 0, none⟩)) (w.alloc (.mapIter (some g) clk #[] clk)) := by
  simp only [Instr.range, Sem.run_bind, run_underlying hT, Result.andThen_ok, run_getObj hb, Sem.run_pure, newObj]
  rfl

/-- How many entries an iterator has gone over. -/
def seenOf (w : World) (r : Nat) : Nat := match w.heap[r]? with | some (.mapIter _ _ seen _) => seen.size | _ => 0

/-- What is stored at both of two maps. -/
structure TwoMaps (w : World) (go gn gl : Nat) (f : Int → Option Value) (cs : Array Value) : Prop where
  blk : Blk w go 60 cs
  now : MapIs w gn f
  lasts : MapIs w gl f

theorem zeroE' : ∀ w : World, (zeroValue 27).run Try.prog w = .ok (.slice none 0 0) w := zeroE

/-- Both maps get one entry more: the four operations, in their one order. -/
theorem TwoMaps.put {w : World} {go gn gl : Nat} {f : Int → Option Value} {cs : Array Value} (h : TwoMaps w go gn gl f cs) (hne : gn ≠ gl) (k : Int) (v : Value) :
    ∃ u1 b1 w1 w2 u2 b2 w3 w4,
      (Instr.mapEntry 51 (.map (some gl)) (.int .i64 k)).run Try.prog w = .ok (.tuple #[u1, .int .i64 b1]) w1 ∧
      (Instr.entryStore 51 (.map (some gl)) (.int .i64 (b1 : Int)) v).run Try.prog w1 = .ok () w2 ∧
      (Instr.mapEntry 51 (.map (some gn)) (.int .i64 k)).run Try.prog w2 = .ok (.tuple #[u2, .int .i64 b2]) w3 ∧
      (Instr.entryStore 51 (.map (some gn)) (.int .i64 (b2 : Int)) v).run Try.prog w3 = .ok () w4 ∧
      w.grownBy w1 (some gl) ∧ w.grownBy w2 (some gl) ∧ Chg w w3 (fun i => i = gl ∨ i = gn) ∧ Chg w w4 (fun i => i = gl ∨ i = gn) ∧ TwoMaps w4 go gn gl (updM f k v) cs ∧ w4.heap.size = w.heap.size := by
  obtain ⟨u1, b1, w1, e1, g1, s1, w2, e2, m2, g2, s2⟩ := h.lasts.entry (P := Try.prog) (T := 51) (K := 3) (E := 27) Try.underlying51 Try.underlying3 zeroE' k v
  have n1 : go ≠ gl := fun x => by
    have := h.blk
    unfold Blk at this
    rw [x] at this
    exact h.lasts.notCells this
  have n2 : go ≠ gn := fun x => by
    have := h.blk
    unfold Blk at this
    rw [x] at this
    exact h.now.notCells this
  have hn2 : MapIs w2 gn f := h.now.block (g2.block gn h.now.lt (fun e => hne (by injection e)))
  obtain ⟨u2, b2, w3, e3, g3, s3, w4, e4, m4, g4, s4⟩ := hn2.entry (P := Try.prog) (T := 51) (K := 3) (E := 27) Try.underlying51 Try.underlying3 zeroE' k v
  have c2 : Chg w w2 (fun i => i = gl ∨ i = gn) := (Chg.grown g2).mono fun i _ hi => .inl (by injection hi with hi; exact hi.symm)
  refine ⟨u1, b1, w1, w2, u2, b2, w3, w4, e1, e2, e3, e4, g1, g2, c2.trans (Chg.grown g3) (fun i hi => .inl (.inr (by injection hi with hi; exact hi.symm))), c2.trans (Chg.grown g4) (fun i hi => .inl (.inr (by injection hi with hi; exact hi.symm))), ⟨?_, m4, ?_⟩, by omega⟩
  · exact (h.blk.grown g2 (fun e => n1 (by injection e))).grown g4 (fun e => n2 (by injection e))
  · exact m2.block (g4.block gl (by have := h.lasts.lt; omega) (fun e => hne (by injection e with e; exact e.symm)))

/-- A list of entries all of which another one holds, key by key. -/
theorem look_sub {L S : List Ent} (hL : (L.map (·.1)).Nodup) (hS : (S.map (·.1)).Nodup) (h1 : ∀ e ∈ S, e ∈ L) (h2 : ∀ e ∈ L, e ∈ S) (k : Int) : look S k = look L k := by
  have find : ∀ (M : List Ent), (M.map (·.1)).Nodup → ∀ e ∈ M, look M e.1 = some e.2.1 := fun M hM e he => by
    induction M with
    | nil => cases he
    | cons x r ih =>
      simp only [List.map_cons, List.nodup_cons] at hM
      rcases List.mem_cons.1 he with rfl | he
      · simp [look]
      · have : ¬ x.1 = e.1 := fun y => hM.1 (by rw [y]; exact List.mem_map_of_mem he)
        rw [look, if_neg this, ih hM.2 he]
  by_cases hk : k ∈ L.map (·.1)
  · obtain ⟨e, he, rfl⟩ := List.mem_map.1 hk
    rw [find L hL e he, find S hS e (h2 e he)]
  · rw [look_none hk, look_none]
    intro hx
    obtain ⟨e, he, rfl⟩ := List.mem_map.1 hx
    exact hk (List.mem_map_of_mem (h1 e he))

theorem MapIs.ext {w : World} {g : Nat} {f f' : Int → Option Value} (h : MapIs w g f) (e : ∀ k, f' k = f k) : MapIs w g f' := by
  obtain ⟨L, clk, hb, ht, hf⟩ := h
  exact ⟨L, clk, hb, ht, fun k => (e k).trans (hf k)⟩
theorem left_mem {L S : List Ent} {seen : Array Nat} (hseen : seen.toList = S.map (·.2.2)) {e : MapEntry} (he : e ∈ (leftOf (ents L) seen).toList) : ∃ x ∈ L, e = mkE x ∧ x.2.2 ∉ S.map (·.2.2) := by
  unfold leftOf at he
  simp only [Array.toList_filter, List.mem_filter, ents] at he
  obtain ⟨h1, h2⟩ := he
  obtain ⟨x, hx, rfl⟩ := List.mem_map.1 h1
  refine ⟨x, hx, rfl, fun hm => ?_⟩
  rw [← hseen] at hm
  simp [mkE] at h2
  exact h2 (by simpa using hm)
theorem nodup_inj {α β : Type} {f : α → β} {L : List α} (h : (L.map f).Nodup) {a b : α} (ha : a ∈ L) (hb : b ∈ L) (e : f a = f b) : a = b := by
  induction L with
  | nil => cases ha
  | cons x r ih =>
    simp only [List.map_cons, List.nodup_cons] at h
    rcases List.mem_cons.1 ha with h1 | h1
    · rcases List.mem_cons.1 hb with h2 | h2
      · rw [h1, h2]
      · refine absurd ?_ h.1
        rw [← h1, e]
        exact List.mem_map_of_mem h2
    · rcases List.mem_cons.1 hb with h2 | h2
      · refine absurd ?_ h.1
        rw [← h2, ← e]
        exact List.mem_map_of_mem h1
      · exact ih h.2 h1 h2
theorem left_none {L S : List Ent} {seen : Array Nat} (hseen : seen.toList = S.map (·.2.2)) (hz : (leftOf (ents L) seen).size = 0) (hb : (L.map (·.2.2)).Nodup) (hsub : ∀ e ∈ S, e ∈ L) : ∀ e ∈ L, e ∈ S := fun e he => by
  unfold leftOf at hz
  rw [Array.size_eq_zero_iff, Array.filter_eq_empty_iff] at hz
  have h1 := hz (mkE e) (by simp only [ents]; exact List.mem_toArray.2 (List.mem_map_of_mem he))
  have h2 : e.2.2 ∈ seen.toList := by
    simp [mkE] at h1
    simpa using h1
  rw [hseen] at h2
  obtain ⟨x, hx, hxe⟩ := List.mem_map.1 h2
  have : x = e := by
    exact nodup_inj hb (hsub x hx) he hxe
  exact this ▸ hx

theorem nodup_len : ∀ (A B : List Int), A.Nodup → (∀ x ∈ A, x ∈ B) → A.length ≤ B.length
  | [], B, _, _ => Nat.zero_le _
  | x :: r, B, h, hs => by
    rw [List.nodup_cons] at h
    have h1 := nodup_len r (B.erase x) h.2 (fun y hy => (List.mem_erase_of_ne (fun (e : y = x) => h.1 (by rw [← e]; exact hy))).2 (hs y (by simp [hy])))
    have h2 := List.length_erase_of_mem (hs x (by simp))
    have h3 : 0 < B.length := List.length_pos_of_mem (hs x (by simp))
    simp only [List.length_cons]
    omega
theorem key_new {L S : List Ent} (hL : (L.map (·.1)).Nodup) (hsub : ∀ e ∈ S, e ∈ L) {x : Ent} (hx : x ∈ L) (hS : x.2.2 ∉ S.map (·.2.2)) : x.1 ∉ S.map (·.1) := fun h => by
  obtain ⟨y, hy, e⟩ := List.mem_map.1 h
  have := nodup_inj hL (hsub y hy) hx e
  subst this
  exact hS (List.mem_map_of_mem hy)
theorem key_push {S : List Ent} (h : (S.map (·.1)).Nodup) {x : Ent} (hx : x.1 ∉ S.map (·.1)) : ((S ++ [x]).map (·.1)).Nodup := by
  rw [List.map_append, List.nodup_append]
  refine ⟨h, by simp, fun a ha b hb => ?_⟩
  simp at hb
  subst hb
  exact fun e => hx (e ▸ ha)
theorem seen_at {w : World} {r : Nat} {m : Option Nat} {a c : Nat} {seen : Array Nat} (h : w.heap[r]? = some (.mapIter m a seen c)) : seenOf w r = seen.size := by
  unfold seenOf; rw [h]

/-- The values behind a cut. -/
def foldM (f : Int → Option Value) (ps : List (Int × Value)) : Int → Option Value := ps.foldl (fun f q => updM f q.1 q.2) f
theorem foldM_snoc (f : Int → Option Value) (ps : List (Int × Value)) (q : Int × Value) : foldM f (ps ++ [q]) = updM (foldM f ps) q.1 q.2 := by simp [foldM, List.foldl_append]
theorem Holds.fold {w : World} {ps : List (Int × Value)} {qs : List (Int × List Int)} (hP : Pend w ps qs) {f : Int → Option Value} {c : Int → Option (List Int)} (h : Holds w f c) : Holds w (foldM f ps) (applyW c qs) := by
  induction ps generalizing qs f c with
  | nil =>
    cases qs with
    | nil => exact h
    | cons q s => exact hP.elim
  | cons p r ih =>
    cases qs with
    | nil => exact hP.elim
    | cons q s =>
      have h1 := h.put (k := p.1) hP.2.1
      have h2 := ih hP.2.2 h1
      rw [hP.1] at h2
      show Holds w (foldM (updM f p.1 p.2) r) (applyW (updC c q.1 q.2) s)
      rw [hP.1]
      exact h2
theorem Pend.kept {w : World} (keep : List Bool) {ps : List (Int × Value)} {qs : List (Int × List Int)} (hP : Pend w ps qs) : ∀ k, k ≤ ps.length → Pend w (keptW ps keep k) (keptW qs keep k)
  | 0, _ => by simp [keptW, Pend]
  | k + 1, hk => by
    have hl := hP.len
    have ih := Pend.kept keep hP k (by omega)
    rw [keptW_succ ps keep k (by omega), keptW_succ qs keep k (by omega)]
    by_cases h : keptAt keep k = true
    · rw [if_pos h, if_pos h]
      obtain ⟨h1, h2⟩ := hP.at_ k (by omega) (by omega)
      have := Pend.snoc (n := (ps[k]'(by omega)).1) h2 ih
      have e : (qs[k]'(by omega)) = ((ps[k]'(by omega)).1, (qs[k]'(by omega)).2) := by rw [h1]
      rw [e]
      exact this
    · rw [if_neg h, if_neg h, List.append_nil, List.append_nil]
      exact ih

/-- What Cut answers. -/
def CutD (s : DS) (keep : List Bool) (w : World) (e : Ending) (w' : World) : Prop :=
  ∃ g' F', e = .returned (.pointer (some ⟨g', 0, none⟩)) ∧ DiskAt w' g' (cutS s keep) F' ∧ (∀ k, F' k → w.heap.size ≤ k) ∧ Below w.heap.size w w'

theorem iter_kept {w w' : World} {r : Nat} {o : Obj} {S : Nat → Prop} (h : w.heap[r]? = some o) (hc : Chg w w' S) (hr : ¬ S r) : w'.heap[r]? = some o := by
  refine (hc.block r ?_ hr).trans h
  rcases Nat.lt_or_ge r w.heap.size with x | x
  · exact x
  · rw [Array.getElem?_eq_none x] at h; cases h

set_option maxHeartbeats 8000000 in
theorem cut_any (g : Nat) (s : DS) (p : DP) (A : Option Addr) (keep : List Bool) (c : Nat) (w : World) (h : DiskOf w g s p) (hs0 : 0 ≤ s.size) (hs1 : s.size ≤ 65536) (hp : s.pend.length ≤ 1000000000) (hk : Cells w w.heap.size A (keep.map Value.bool)) (hkl : keep.length ≤ 9223372036854775807) :
    Calls Try.prog 20 #[.pointer (some ⟨g, 0, none⟩), .slice A keep.length c] w (CutD s keep w) := by
  have hsz : newDS s.size = ⟨s.size, fun _ => none, fun _ => none, [], -1, false, 0, 0, 0⟩ := by unfold newDS; congr 1; omega
  have HSZ := Lib.hid hsz
  clear hsz
  go_enter Try.func20, Try.ntmps20
  go_wp2_with fail
  refine (size_any g s p w h).mono ?_
  rintro e w1 ⟨rfl, rfl⟩
  go_wp2_with fail
  refine (new_any s.size w).mono ?_
  rintro e w1 ⟨go, po, rfl, hO, hvp, hFw, hb1⟩
  have HVP := Lib.hid hvp
  clear hvp
  rw [HSZ.out] at hO
  have h1 := h.below hb1
  have c2 : w1.cell? ⟨g, 2, none⟩ = some (.map (some p.gl)) := h1.blk.cell 2
  obtain ⟨L, clk, hL, hTidy, hfl⟩ := h1.lasts
  have hrg := run_range (P := Try.prog) (T := 51) (K := 3) (E := 27) Try.underlying51 hL
  have n0 : w.heap.size ≤ go := hFw go (.inl rfl)
  have n1 : w.heap.size ≤ po.gn := hFw po.gn (.inr (.inl rfl))
  have n2 : w.heap.size ≤ po.gl := hFw po.gl (.inr (.inr (.inl rfl)))
  have m0 := hO.blk.lt
  have m1 := hO.now.lt
  have m2 := hO.lasts.lt
  have hT0 : TwoMaps w1 go po.gn po.gl (look []) (dcells ⟨s.size, fun _ => none, fun _ => none, [], -1, false, 0, 0, 0⟩ po) := by
    refine ⟨hO.blk, hO.now.ext fun k => ?_, hO.lasts.ext fun k => ?_⟩
    · rcases hO.hnow k with ⟨e, _⟩ | ⟨v, l, _, e, _⟩
      · rw [e]; rfl
      · cases e
    · rcases hO.hlasts k with ⟨e, _⟩ | ⟨v, l, _, e, _⟩
      · rw [e]; rfl
      · cases e
  have hold : ∀ x ∈ (ents L).toList, x.born < clk := fun x hx => by
    simp only [ents] at hx
    obtain ⟨y, hy, rfl⟩ := List.mem_map.1 hx
    exact hTidy.old y hy
  have hbn : ((ents L).toList.map (·.born)).Nodup := by
    have := hTidy.borns
    simpa [ents, mkE, Function.comp_def] using this
  have hLw : w.heap[p.gl]? = some (.map (ents L) clk) := (hb1.block p.gl h.lasts.lt).symm.trans hL
  have htwo := hO.two
  have hs1' := hb1.size
  obtain ⟨r, hr⟩ : ∃ r, r = w1.heap.size := ⟨_, rfl⟩
  have HR := Lib.hid hr
  go_wp2
  rw [← hr]
  have r0 : go < r := by omega
  have r1 : po.gn < r := by omega
  have r2 : po.gl < r := by omega
  have r3 : w.heap.size ≤ r := by omega
  clear hr m0 m1 m2
  go_loopw [6] (fun _ wr => ∃ (S : List Ent) (seen : Array Nat) (c0 : Nat), wr.heap[r]? = some (.mapIter (some p.gl) clk seen c0) ∧ seen.toList = S.map (·.2.2) ∧ (∀ e ∈ S, e ∈ L) ∧ (S.map (·.1)).Nodup ∧ clk ≤ c0 ∧
      TwoMaps wr go po.gn po.gl (look S) (dcells ⟨s.size, fun _ => none, fun _ => none, [], -1, false, 0, 0, 0⟩ po) ∧ Below w.heap.size w wr ∧ r < wr.heap.size)
    (fun _ wr => L.length - seenOf wr r)
  case atStart =>
    have e9 := HR.out
    subst e9
    refine ⟨[], #[], clk, heap_alloc_new w1 _, rfl, by simp, by simp, Nat.le_refl _, ⟨hT0.blk.alloc _, hT0.now.block (Below.heap_alloc _ _ _ hT0.now.lt), hT0.lasts.block (Below.heap_alloc _ _ _ hT0.lasts.lt)⟩, hb1.alloc hs1' _, by simp⟩
  case round =>
    obtain ⟨S, seen, c0, hit, hseen, hsub, hnd, hc0, hT, hB, hsz⟩ := hrel
    have hb : wr.heap[p.gl]? = some (.map (ents L) clk) := (hB.block p.gl h.lasts.lt).trans hLw
    rcases run_next_at (P := Try.prog) wr 0 r p.gl clk c0 seen (ents L) clk hit hb hold hc0 with ⟨hz, hrun⟩ | ⟨e, he, wd, hwd, hrun⟩
    · have hall := left_none hseen hz hTidy.borns hsub
      have hT1 : TwoMaps wr go po.gn po.gl (foldM p.fl (keptW p.ps keep 0)) (dcells ⟨s.size, fun _ => none, fun _ => none, [], -1, false, 0, 0, 0⟩ po) := by
        have e9 : ∀ k, foldM p.fl (keptW p.ps keep 0) k = look S k := fun k => by
          show p.fl k = look S k
          rw [hfl k, look_sub hTidy.keys hnd hsub hall k]
        exact ⟨hT.blk, hT.now.ext e9, hT.lasts.ext e9⟩
      clear hall hz hit hseen hsub hnd hc0 hT hb
      have hD := h.keep (w' := wr) (fun k hk => hB.block k (h.lt k hk)) (BK.of_below hB) hB.size
      obtain ⟨Ap, cp, hvp2, _, _, hcrow⟩ := ownsRow_shape hD.row
      have c3 : wr.cell? ⟨g, 3, none⟩ = some (.slice Ap p.ps.length cp) := by
        have : wr.cell? ⟨g, 3, none⟩ = some p.vp := hD.blk.cell 3
        rw [this, hvp2]
      have HVP2 := Lib.hid hvp2
      clear hvp2
      have hpl : p.ps.length ≤ 1000000000 := by have := h.pend.len; omega
      have hpq := h.pend.len
      have HPQ := Lib.hid hpq
      clear hpq
      obtain ⟨wo, rfl⟩ : ∃ wo : World, wo = wr := ⟨_, rfl⟩
      go_wp2
      go_loopw [47] (fun i wr => ∃ k : Nat, i = .int .i64 k ∧ k ≤ p.ps.length ∧ TwoMaps wr go po.gn po.gl (foldM p.fl (keptW p.ps keep k)) (dcells ⟨s.size, fun _ => none, fun _ => none, [], -1, false, 0, 0, 0⟩ po) ∧ Below w.heap.size w wr ∧ r < wr.heap.size)
        (fun i _ => p.ps.length - (intOf i).toNat)
      case atStart => exact ⟨0, rfl, Nat.zero_le _, hT1, hB, hsz⟩
      case round =>
        obtain ⟨k, rfl, hkk, hT2, hB2, hsz2⟩ := hrel
        have hD2 := h.keep (w' := wr) (fun k hk => hB2.block k (h.lt k hk)) (BK.of_below hB2) hB2.size
        by_cases hlt : k < p.ps.length
        · have hlt' : k < s.pend.length := by have := HPQ.out; omega
          obtain ⟨A', c', e', _, _, hcr2⟩ := ownsRow_shape hD2.row
          have hAA : A' = Ap := by
            rw [HVP2.out] at e'
            injection e' with e'
            exact e'.symm
          subst hAA
          clear e'
          have hne : flat p.ps ≠ [] := fun x => by
            have := flat_len p.ps
            rw [x] at this
            simp at this
            omega
          obtain ⟨b, off, rfl, hbl, hcc⟩ := hcr2.form hne
          obtain ⟨hat1, hat2⟩ := hD2.pend.at_ k hlt hlt'
          have q0 := hcc _ _ (flat_fst hlt)
          have q1 := hcc _ _ (flat_snd hlt)
          obtain ⟨n, hn⟩ : ∃ n, (p.ps[k]).1 = n := ⟨_, rfl⟩
          obtain ⟨v, hv⟩ : ∃ v, (p.ps[k]).2 = v := ⟨_, rfl⟩
          rw [hv] at hat2
          rw [hn] at q0
          rw [hv, ← Nat.add_assoc] at q1
          obtain ⟨bs, os', cs, cur, mk, rfl, hrest⟩ := hat2
          have HP1 := Lib.hid hn
          have HP2 := Lib.hid hv
          clear hn hv hat1 hcc hne hrest
          have hgk : (k : Int) < (p.ps.length : Int) := by omega
          have hr4 : w.heap.size ≤ wr.heap.size := hB2.size
          by_cases hkp : keptAt keep k = true
          · -- it is kept
            have hN : TwoMaps (wr.alloc (.cells #[.int .i64 n, .slice (some ⟨bs, os', none⟩) 256 cs] 64)).drew go po.gn po.gl (foldM p.fl (keptW p.ps keep k)) (dcells ⟨s.size, fun _ => none, fun _ => none, [], -1, false, 0, 0, 0⟩ po) :=
              ⟨(hT2.blk.alloc _).drew, hT2.now.block (Below.heap_alloc _ _ _ hT2.now.lt), hT2.lasts.block (Below.heap_alloc _ _ _ hT2.lasts.lt)⟩
            have hnb : Blk (wr.alloc (.cells #[.int .i64 n, .slice (some ⟨bs, os', none⟩) 256 cs] 64)).drew wr.heap.size 64 #[.int .i64 n, .slice (some ⟨bs, os', none⟩) 256 cs] := (Blk.new wr _ _).drew
            obtain ⟨u1, b1, v1, v2, u2, b2, v3, v4, e1, e2, e3, e4, d1, d2, d3, d4, hT4, hs4⟩ := hN.put htwo n (.slice (some ⟨bs, os', none⟩) 256 cs)
            clear hs4
            have f1 := hnb.grown d1 (fun e => by injection e with e; omega)
            have f2 := hnb.grown d2 (fun e => by injection e with e; omega)
            have f3 : Blk v3 wr.heap.size 64 #[.int .i64 n, .slice (some ⟨bs, os', none⟩) 256 cs] := iter_kept hnb d3 (fun hi => by rcases hi with hi | hi <;> omega)
            have n1' : go ≠ po.gl := fun x => by
              have := hT2.blk
              unfold Blk at this
              rw [x] at this
              exact hT2.lasts.notCells this
            have n2' : go ≠ po.gn := fun x => by
              have := hT2.blk
              unfold Blk at this
              rw [x] at this
              exact hT2.now.notCells this
            have g1' := hN.blk.grown d1 (fun e => n1' (by injection e))
            have g2' := hN.blk.grown d2 (fun e => n1' (by injection e))
            have nn : ¬ (go = po.gl ∨ go = po.gn) := fun hi => by
              rcases hi with hi | hi
              · exact n1' hi
              · exact n2' hi
            have g3' : Blk v3 go 60 _ := iter_kept hN.blk d3 nn
            have o0 : ∀ o, (wr.alloc o).cell? ⟨go, 1, none⟩ = some (.map (some po.gn)) := fun o => (hT2.blk.alloc o).cell 1
            have o1 : ∀ o, (wr.alloc o).cell? ⟨go, 2, none⟩ = some (.map (some po.gl)) := fun o => (hT2.blk.alloc o).cell 2
            have a1 : v1.cell? ⟨go, 1, none⟩ = some (.map (some po.gn)) := g1'.cell 1
            have a2 : v2.cell? ⟨go, 1, none⟩ = some (.map (some po.gn)) := g2'.cell 1
            have a3 : v3.cell? ⟨go, 1, none⟩ = some (.map (some po.gn)) := g3'.cell 1
            have x1 : v1.cell? ⟨wr.heap.size, 0, none⟩ = some (.int .i64 n) := f1.cell 0
            have x2 : v2.cell? ⟨wr.heap.size, 0, none⟩ = some (.int .i64 n) := f2.cell 0
            have x3 : v3.cell? ⟨wr.heap.size, 0, none⟩ = some (.int .i64 n) := f3.cell 0
            have y1 : v1.cell? ⟨wr.heap.size, 1, none⟩ = some (.slice (some ⟨bs, os', none⟩) 256 cs) := f1.cell 1
            have y2 : v2.cell? ⟨wr.heap.size, 1, none⟩ = some (.slice (some ⟨bs, os', none⟩) 256 cs) := f2.cell 1
            have y3 : v3.cell? ⟨wr.heap.size, 1, none⟩ = some (.slice (some ⟨bs, os', none⟩) 256 cs) := f3.cell 1
            have hstep : foldM p.fl (keptW p.ps keep (k + 1)) = updM (foldM p.fl (keptW p.ps keep k)) n (.slice (some ⟨bs, os', none⟩) 256 cs) := by
              rw [keptW_succ p.ps keep k hlt, if_pos hkp, foldM_snoc, HP1.out, HP2.out]
            have HST := Lib.hid hstep
            clear hstep hnb f1 f2 f3 g1' g2' g3'
            have hBv : Below w.heap.size w v4 := (hB2.alloc hB2.size _).trans (((Chg.drew _ (fun _ => False)).mono (S' := fun i => i = po.gl ∨ i = po.gn) (fun _ _ hi => hi.elim) |>.trans d4 (fun i hi => .inl hi)).below (by simp; omega) (fun i hi => by rcases hi with hi | hi <;> omega))
            have hsv : r < v4.heap.size := by have := d4.size; simp at this; omega
            by_cases hke : keep = []
            · have hmb : ((keep.length : Int) == 0) = true := by rw [hke]; rfl
              clear hke
              go_wp2
              go_region
              all_goals
                go_wp2
                go_roundw
                case rel => exact ⟨k + 1, by go_num, by omega, by rw [HST.out]; exact hT4, hBv, hsv⟩
                case measure => simp [intOf]; omega
            · obtain ⟨bk, ok, hkA, hbk, hck⟩ := hk.form (by simpa using hke)
              have hm0 : 0 < keep.length := List.length_pos_iff.2 hke
              have hmod : k % keep.length < keep.length := Nat.mod_lt _ hm0
              have hkb : (keep.map Value.bool)[k % keep.length]? = some (.bool true) := by
                unfold keptAt at hkp
                simp only [List.isEmpty_iff, hke, Bool.or_eq_true, false_or] at hkp
                rw [List.getElem?_map, List.getElem?_eq_getElem hmod]
                rw [List.getD_eq_getElem?_getD, List.getElem?_eq_getElem hmod] at hkp
                simpa using hkp
              have hcb := hck _ _ hkb
              have hcb' : ∀ o, (wr.alloc o).cell? ⟨bk, ok + k % keep.length, none⟩ = some (.bool true) := fun o => (World.cell?_alloc_lt wr o _ (by show bk < _; omega)).trans ((hB2.cell (p := ⟨bk, ok + k % keep.length, none⟩) hbk).trans hcb)
              have hmb : ((keep.length : Int) == 0) = false := by simp; exact hke
              clear hcb hkb hck hke
              subst hkA
              go_wp2
              go_region
              all_goals
                go_wp2
                go_roundw
                case rel => exact ⟨k + 1, by go_num, by omega, by rw [HST.out]; exact hT4, hBv, hsv⟩
                case measure => simp [intOf]; omega
          · -- it is lost
            have hke : keep ≠ [] := fun x => hkp (by rw [x]; rfl)
            have hT4 : TwoMaps (wr.alloc (.cells #[.int .i64 n, .slice (some ⟨bs, os', none⟩) 256 cs] 64)) go po.gn po.gl (foldM p.fl (keptW p.ps keep (k + 1))) (dcells ⟨s.size, fun _ => none, fun _ => none, [], -1, false, 0, 0, 0⟩ po) := by
              rw [keptW_succ p.ps keep k hlt, if_neg hkp, List.append_nil]
              exact ⟨hT2.blk.alloc _, hT2.now.block (Below.heap_alloc _ _ _ hT2.now.lt), hT2.lasts.block (Below.heap_alloc _ _ _ hT2.lasts.lt)⟩
            have hBv : Below w.heap.size w (wr.alloc (.cells #[.int .i64 n, .slice (some ⟨bs, os', none⟩) 256 cs] 64)) := hB2.alloc hB2.size _
            obtain ⟨bk, ok, hkA, hbk, hck⟩ := hk.form (by simpa using hke)
            have hm0 : 0 < keep.length := List.length_pos_iff.2 hke
            have hmod : k % keep.length < keep.length := Nat.mod_lt _ hm0
            have hkb : (keep.map Value.bool)[k % keep.length]? = some (.bool false) := by
              unfold keptAt at hkp
              simp only [List.isEmpty_iff, hke, Bool.or_eq_true, false_or] at hkp
              rw [List.getElem?_map, List.getElem?_eq_getElem hmod]
              rw [List.getD_eq_getElem?_getD, List.getElem?_eq_getElem hmod] at hkp
              simpa using hkp
            have hcb := hck _ _ hkb
            have hcb' : ∀ o, (wr.alloc o).cell? ⟨bk, ok + k % keep.length, none⟩ = some (.bool false) := fun o => (World.cell?_alloc_lt wr o _ (by show bk < _; omega)).trans ((hB2.cell (p := ⟨bk, ok + k % keep.length, none⟩) hbk).trans hcb)
            have hmb : ((keep.length : Int) == 0) = false := by simp; exact hke
            clear hcb hkb hck hke
            subst hkA
            go_wp2
            go_roundw
            case rel => exact ⟨k + 1, by go_num, by omega, hT4, hBv, by rw [World.size_alloc]; omega⟩
            case measure => simp [intOf]; omega
        · have hke : k = p.ps.length := by omega
          have HKE := Lib.hid hke
          clear hke
          have hgk : ¬ (k : Int) < (p.ps.length : Int) := by omega
          go_wp2
          go_ret
          have e9 := HKE.out
          subst e9
          have hvp := HVP.out
          have hps : po.ps = [] := by
            have := hO.pend.len
            exact List.length_eq_zero_iff.1 this
          have hpl2 := HPQ.out
          have hH : Holds wr (foldM p.fl (keptW p.ps keep p.ps.length)) (applyW s.lasts (keptW s.pend keep s.pend.length)) := by
            rw [← hpl2]
            exact hD2.hlasts.fold (hD2.pend.kept keep p.ps.length (Nat.le_refl _))
          refine ⟨go, _, rfl, ⟨⟨po.gn, po.gl, .slice none 0 0, [], foldM p.fl (keptW p.ps keep p.ps.length), foldM p.fl (keptW p.ps keep p.ps.length)⟩, ⟨?_, hT2.now, hT2.lasts, htwo, World.ownsRow_nil _ _ _ _, hH, hH, trivial⟩, fun _ => Iff.rfl⟩, fun k hk => ?_, hB2⟩
          · have := hT2.blk
            unfold dcells at this ⊢
            rw [hvp] at this
            exact this
          · rcases hk with rfl | rfl | rfl | hk
            · exact n0
            · exact n1
            · exact n2
            · cases hk
    · obtain ⟨x, hxL, rfl, hxS⟩ := left_mem hseen he
      have hd : Chg wr wd (fun _ => False) := by
        rcases hwd with rfl | rfl
        · exact Chg.refl _ _
        · exact Chg.drew _ _
      have hitd : wd.heap[r]? = some (.mapIter (some p.gl) clk seen c0) := by rcases hwd with rfl | rfl <;> exact hit
      have hW2 : Chg wd (setBlock wd r (.mapIter (some p.gl) clk (seen.push (mkE x).born) clk)) (fun i => i = r) := ⟨rfl, rfl, rfl, by simp [setBlock], fun i _ hi => by simp [setBlock, Ne.symm hi]⟩
      have hW2r : (setBlock wd r (.mapIter (some p.gl) clk (seen.push (mkE x).born) clk)).heap[r]? = some (.mapIter (some p.gl) clk (seen.push (mkE x).born) clk) := by
        have : r < wd.heap.size := Nat.lt_of_lt_of_le hsz hd.size
        simp [setBlock, this]
      obtain ⟨W2, hw2⟩ : ∃ W2, W2 = setBlock wd r (.mapIter (some p.gl) clk (seen.push (mkE x).born) clk) := ⟨_, rfl⟩
      rw [← hw2] at hrun hW2 hW2r
      clear hw2 hitd
      have hC2 : Chg wr W2 (fun i => i = r) := (hd.mono fun _ _ hi => hi.elim).trans hW2 fun i hi => .inl hi
      clear hd hW2
      have hb2 : W2.heap[p.gl]? = some (.map (ents L) clk) := iter_kept hb hC2 (fun e => by have := h.lasts.lt; omega)
      have hen := run_entry_at (P := Try.prog) W2 r p.gl clk seen (ents L) clk (mkE x) hW2r hb2 (by simp only [ents]; exact List.mem_map_of_mem hxL) hbn
      have hT2 : TwoMaps W2.drew go po.gn po.gl (look S) (dcells ⟨s.size, fun _ => none, fun _ => none, [], -1, false, 0, 0, 0⟩ po) :=
        ⟨iter_kept hT.blk (hC2.trans (Chg.drew W2 (fun _ => False)) (fun _ hi => hi.elim)) (by show ¬ go = r; omega), hT.now.block (hC2.block _ hT.now.lt (by show ¬ po.gn = r; omega)), hT.lasts.block (hC2.block _ hT.lasts.lt (by show ¬ po.gl = r; omega))⟩
      obtain ⟨u1, b1, v1, v2, u2, b2, v3, v4, e1, e2, e3, e4, d1, d2, d3, d4, hT4, hs4⟩ := hT2.put htwo x.1 x.2.1
      clear hs4
      have q1 : W2.cell? ⟨go, 1, none⟩ = some (.map (some po.gn)) := hT2.blk.cell 1
      have q2 : W2.cell? ⟨go, 2, none⟩ = some (.map (some po.gl)) := hT2.blk.cell 2
      simp only [mkE] at hrun hen
      have hkx := key_new hTidy.keys hsub hxL hxS
      have hnd' := key_push hnd hkx
      have hlen : (S ++ [x]).length ≤ L.length := by
        have := nodup_len _ (L.map (·.1)) hnd' (fun k hk => by
          obtain ⟨y, hy, rfl⟩ := List.mem_map.1 hk
          rcases List.mem_append.1 hy with h1 | h1
          · exact List.mem_map_of_mem (hsub y h1)
          · simp at h1; subst h1; exact List.mem_map_of_mem hxL)
        simpa using this
      have hsl : seen.size = S.length := by
        have := congrArg List.length hseen
        simpa using this
      have hC4 : Chg wr v4 (fun i => w.heap.size ≤ i) := (hC2.mono fun i _ hi => by have hi : i = r := hi; omega).trans ((Chg.drew W2 (fun _ => False)).mono (S' := fun i => i = po.gl ∨ i = po.gn) (fun _ _ hi => hi.elim) |>.trans d4 (fun i hi => .inl hi)) fun i hi => .inl (by rcases hi with hi | hi <;> omega)
      have hit4 : v4.heap[r]? = some (.mapIter (some p.gl) clk (seen.push (mkE x).born) clk) := iter_kept (w := W2.drew) hW2r d4 (fun hi => by rcases hi with hi | hi <;> omega)
      have m1 := seen_at hit
      have m2 := seen_at hit4
      have HM1 := Lib.hid m1
      have HM2 := Lib.hid m2
      have HSL := Lib.hid hsl
      clear m1 m2 hsl
      go_wp2
      go_region
      all_goals
        go_wp2
        go_roundw
        case rel =>
          refine ⟨S ++ [x], seen.push (mkE x).born, clk, hit4, by simp [hseen, mkE], fun e he => ?_, hnd', Nat.le_refl _, ⟨hT4.blk, hT4.now.ext fun k => ?_, hT4.lasts.ext fun k => ?_⟩, hB.trans (hC4.below hB.size (fun i hi => hi)), Nat.lt_of_lt_of_le hsz hC4.size⟩
          · rcases List.mem_append.1 he with h1 | h1
            · exact hsub e h1
            · simp at h1; subst h1; exact hxL
          · exact look_push hkx k
          · exact look_push hkx k
        case measure =>
          rw [HM1.out, HM2.out]
          have := HSL.out
          simp at hlen ⊢
          omega
end Go.Proofs.Ytcgnfkiimnpdcaa
