/-
  The reference's disk: Cut.
-/
import Derived.Test.YtobdbkhjdhnooaaEb
import Derived.Deep.RegionLaw
import Derived.Deep.DeepCutAuto
set_option linter.unusedVariables false
namespace Go.Proofs.Ytobdbkhjdhnooaa
open Go.RowKit

theorem appG_stepS {P : Program} {t e : TypeId} {z : Value} {size bytes : Nat} {ops : Array Oper} {w : World} {o : Oper} {a : Act} {K : Act → World → Prop} {Q : Exit → Act → World → Prop} {E : Prop} (ht : P.underlying t = some (.slice e)) (hinfo : (P.info? e).map (fun i => (i.zero, i.size, i.bytes)) = some (some z, size, bytes)) (hzs : z.cells.size = size) (hsz : 0 < size)
    (hgd : o.guard = none) (s x : Operand) (ho : o.op = .call { callee := .builtin .append, args := #[s, x], argTypes := #[t, t] })
    (base : Nat) (v : Value) (n : Nat) (xs : List Value) (hs : a.eval s = v) (hown : w.ownsRow base e size v n xs) (B : Nat) (A : Option Addr) (m c : Nat) (news : List Value) (hx : a.eval x = .slice A m c) (hc : Cells w B A news) (hl : news.length = m * size) (h1 : ∀ u ∈ news, u.oneCell' = true)
    (h63 : n + m ≤ maxLen) (hlen : (n + m) * bytes ≤ 140737488355328) (hbase : base ≤ w.heap.size)
    (h : ∀ A' c' w', w'.ownsRow base e size (.slice A' (n + m) c') (n + m) (xs ++ news) → Grew w v w' (.slice A' (n + m) c') → K (a.put o.dst (.slice A' (n + m) c')) w') :
    if Region.wanted o (yielded ops a.tmps) = true then Oper.wp P o a w K Q else E :=
  appG_step ht hinfo hzs hsz hgd s x ho base v n xs hs hown B A m c news hx hc hl h1 h63 hlen hbase fun v' w' h1 h2 => by
    obtain ⟨A', c', e, _⟩ := ownsRow_shape h1
    subst e
    exact h A' c' w' h1 h2
theorem ownsRow_drew {w : World} {base : Nat} {e : TypeId} {size : Nat} {v : Value} {n : Nat} {xs : List Value} (h : w.ownsRow base e size v n xs) : w.drew.ownsRow base e size v n xs := h
theorem Grew.undrew {w w' : World} {v v' : Value} (h : Grew w.drew v w' v') : Grew w v w' v' := ⟨⟨h.by_.os, h.by_.tape, h.by_.output, h.by_.size, h.by_.block⟩, h.at_⟩

/-- The writes that are there after the first k were looked at. -/
def rk (r : RS) (keep : List Bool) (k : Nat) : List (Int × List Int) := r.all.take (min k r.lasts) ++ keptW (r.all.drop r.lasts) keep (k - r.lasts)
def rkeeps (r : RS) (keep : List Bool) (k : Nat) : Bool := decide (k < r.lasts) || keptAt keep (k - r.lasts)
theorem rk_zero (r : RS) (keep : List Bool) : rk r keep 0 = [] := by simp [rk, keptW]
theorem rk_succ (r : RS) (keep : List Bool) (k : Nat) (h : k < r.all.length) : rk r keep (k + 1) = rk r keep k ++ if rkeeps r keep k = true then [r.all[k]] else [] := by
  unfold rk rkeeps
  by_cases hk : k < r.lasts
  · rw [show min (k + 1) r.lasts = k + 1 by omega, show min k r.lasts = k by omega, show k + 1 - r.lasts = 0 by omega, show k - r.lasts = 0 by omega, take_snoc' r.all k h]
    simp [keptW, hk]
  · rw [show min (k + 1) r.lasts = r.lasts by omega, show min k r.lasts = r.lasts by omega, show k + 1 - r.lasts = (k - r.lasts) + 1 by omega, keptW_succ _ keep (k - r.lasts) (by rw [List.length_drop]; omega)]
    have e : (r.all.drop r.lasts)[k - r.lasts]'(by rw [List.length_drop]; omega) = r.all[k] := by
      rw [List.getElem_drop]
      congr 1
      omega
    rw [e, List.append_assoc]
    simp [hk]
theorem rk_all (r : RS) (keep : List Bool) (h : r.lasts ≤ r.all.length) : rk r keep r.all.length = rkept r keep := by
  unfold rk rkept
  rw [show min r.all.length r.lasts = r.lasts by omega, List.length_drop]

theorem keptW_len {α : Type} (qs : List α) (keep : List Bool) (k : Nat) : (keptW qs keep k).length ≤ k := by
  unfold keptW
  rw [List.length_map]
  refine Nat.le_trans (List.length_filter_le _ _) ?_
  rw [List.length_zipIdx, List.length_take]
  omega
theorem rk_len (r : RS) (keep : List Bool) (k : Nat) : (rk r keep k).length ≤ k := by
  unfold rk
  have := keptW_len (r.all.drop r.lasts) keep (k - r.lasts)
  rw [List.length_append, List.length_take]
  omega
theorem rkeeps_cases (r : RS) (keep : List Bool) (k : Nat) (h : rkeeps r keep k = true) : k < r.lasts ∨ (r.lasts ≤ k ∧ keep = []) ∨ (r.lasts ≤ k ∧ keep ≠ [] ∧ (keep.map Value.bool)[(k - r.lasts) % keep.length]? = some (.bool true)) := by
  by_cases h1 : k < r.lasts
  · exact .inl h1
  · refine .inr ?_
    by_cases h2 : keep = []
    · exact .inl ⟨by omega, h2⟩
    · refine .inr ⟨by omega, h2, ?_⟩
      unfold rkeeps keptAt at h
      have hm : (k - r.lasts) % keep.length < keep.length := Nat.mod_lt _ (List.length_pos_iff.2 h2)
      simp only [h1, decide_false, Bool.false_or, List.isEmpty_iff, h2, Bool.or_eq_true, decide_false] at h
      rw [List.getD_eq_getElem?_getD, List.getElem?_eq_getElem hm] at h
      rw [List.getElem?_map, List.getElem?_eq_getElem hm]
      simpa [h2] using h
theorem rkeeps_no (r : RS) (keep : List Bool) (k : Nat) (h : ¬ rkeeps r keep k = true) : r.lasts ≤ k ∧ keep ≠ [] ∧ (keep.map Value.bool)[(k - r.lasts) % keep.length]? = some (.bool false) := by
  have h1 : ¬ k < r.lasts := fun x => h (by unfold rkeeps; simp [x])
  have h2 : keep ≠ [] := fun x => h (by unfold rkeeps keptAt; simp [x])
  refine ⟨by omega, h2, ?_⟩
  unfold rkeeps keptAt at h
  have hm : (k - r.lasts) % keep.length < keep.length := Nat.mod_lt _ (List.length_pos_iff.2 h2)
  rw [List.getD_eq_getElem?_getD, List.getElem?_eq_getElem hm] at h
  rw [List.getElem?_map, List.getElem?_eq_getElem hm]
  simpa [h1, h2] using h
/-- One write more. -/
theorem rcut_push {w wr w2 : World} {go : Nat} {r : RS} {keep : List Bool} {k : Nat} {vo v2 v : Value} {po : List (Int × Value)} {n : Int} {l : List Int} {o : Obj} (hOr : RefOf wr w.heap.size go { newR r.size with all := rk r keep k } vo po) (hB : Below w.heap.size w wr) (hsec : Sec wr v l)
    (hrow : w2.ownsRow w.heap.size 84 2 v2 (po.length + 1) (flat po ++ [.int .i64 n, v])) (hG : Grew (wr.alloc o) vo w2 v2) :
    RefOf (w2.setCell ⟨go, 1, none⟩ v2) w.heap.size go { newR r.size with all := rk r keep k ++ [(n, l)] } v2 (po ++ [(n, v)]) ∧ Below w.heap.size w (w2.setCell ⟨go, 1, none⟩ v2) := by
  have hG' := Grew.trans (Grew.alloc (v := vo) o) hG
  obtain ⟨k1, k2⟩ := hOr.wrote hsec hrow hG'
  exact ⟨k1, hB.trans (((Below.refl _ wr).grown hG'.by_ hB.size fun k hk => (hOr.row.lt k hk).1).trans (below_set hOr.base _ _))⟩

/-- What Cut answers. -/
def RCutP (r : RS) (keep : List Bool) (w : World) (e : Ending) (w' : World) : Prop :=
  ∃ g', e = .returned (.pointer (some ⟨g', 0, none⟩)) ∧ RefAt w' w.heap.size g' (rcutS r keep) ∧ Below w.heap.size w w'

set_option maxHeartbeats 4000000 in
theorem rcut_any (B g : Nat) (r : RS) (A : Option Addr) (keep : List Bool) (c : Nat) (w : World) (h : RefAt w B g r) (hle : r.lasts ≤ r.all.length) (hal : r.all.length ≤ 1000000000) (hk : Cells w w.heap.size A (keep.map Value.bool)) (hkl : keep.length ≤ 9223372036854775807) :
    Calls Try.prog 21 #[.pointer (some ⟨g, 0, none⟩), .slice A keep.length c] w (RCutP r keep w) := by
  obtain ⟨vp, ps, h⟩ := h
  have c0 : w.cell? ⟨g, 0, none⟩ = some (.int .i64 r.size) := h.blk.cell 0
  go_enter Try.func21, Try.ntmps21
  go_wp2_with fail
  refine (rnew_any r.size w).mono ?_
  rintro e w1 ⟨go, rfl, hO, hb1⟩
  obtain ⟨vo1, po1, hO1⟩ := hO
  have hgo := hO1.base
  clear c0
  go_wp2
  go_loopw [6] (fun i wr => ∃ (k : Nat) (vo : Value) (po : List (Int × Value)), i = .int .i64 k ∧ k ≤ r.all.length ∧ RefOf wr w.heap.size go { newR r.size with all := rk r keep k } vo po ∧ Below w.heap.size w wr)
    (fun i _ => r.all.length - (intOf i).toNat)
  case atStart => exact ⟨0, vo1, po1, rfl, Nat.zero_le _, by rw [rk_zero]; exact hO1, hb1⟩
  case round =>
    obtain ⟨k, vo, po, rfl, hk1, hOr, hB⟩ := hrel
    clear hO1
    have hD := h.below hB
    obtain ⟨Ap, cp, ep, _, _, hcs⟩ := ownsRow_shape hD.row
    have hp := hD.pend.len
    have d1 : wr.cell? ⟨g, 1, none⟩ = some (.slice Ap r.all.length cp) := by
      have : wr.cell? ⟨g, 1, none⟩ = some vp := hD.blk.cell 1
      rw [this, ep, hp]
    have d2 : wr.cell? ⟨g, 2, none⟩ = some (.int .i64 r.lasts) := hD.blk.cell 2
    have hgl := hD.blk.lt
    have hol := hOr.blk.lt
    have hgw := h.blk.lt
    have HP := Lib.hid hp
    clear ep hp
    by_cases hlt : k < r.all.length
    · have hmp : k < ps.length := by have := HP.out; omega
      obtain ⟨hpa, hsec⟩ := hD.pend.at_ k hmp hlt
      obtain ⟨b, off, rfl, hbl, hcell⟩ := hcs.form (fun x => by have := flat_len ps; rw [x] at this; simp at this; omega)
      have cA : wr.cell? ⟨b, off + k * 2, none⟩ = some (.int .i64 (r.all[k]).1) := by rw [hcell _ _ (flat_fst hmp)]; exact congrArg (fun x => some (Value.int .i64 x)) hpa
      have cB : wr.cell? ⟨b, off + k * 2 + 1, none⟩ = some (ps[k]).2 := hcell _ _ (flat_snd hmp)
      have hsec' := hsec
      obtain ⟨bs, os, cs, cur, mk, ev, _⟩ := hsec'
      rw [ev] at cB
      rw [ev] at hsec
      have HS := Lib.hid (rk_succ r keep k hlt)
      have hgk : (k : Int) < (r.all.length : Int) := by omega
      obtain ⟨N, hN⟩ : ∃ N : Nat, N = 256 := ⟨_, rfl⟩
      rw [← hN] at cB hsec
      clear hpa ev hcell hcs hmp hN
      by_cases hkp : rkeeps r keep k = true
      · rw [if_pos hkp] at HS
        have q1 : wr.cell? ⟨go, 1, none⟩ = some vo := hOr.blk.cell 1
        have q1' : ∀ o, (wr.alloc o).cell? ⟨go, 1, none⟩ = some vo := fun o => (World.cell?_alloc_lt wr o _ hol).trans q1
        have z1 := hOr.blk.free 1
        have d1' : ∀ o, (wr.alloc o).cell? ⟨g, 1, none⟩ = some (.slice (some ⟨b, off, none⟩) r.all.length cp) := fun o => (World.cell?_alloc_lt wr o _ hgl).trans d1
        have cA' : ∀ o, (wr.alloc o).cell? ⟨b, off + k * 2, none⟩ = some (.int .i64 (r.all[k]).1) := fun o => (World.cell?_alloc_lt wr o _ hbl).trans cA
        have cB' : ∀ o, (wr.alloc o).cell? ⟨b, off + k * 2 + 1, none⟩ = some (.slice (some ⟨bs, os, none⟩) N cs) := fun o => (World.cell?_alloc_lt wr o _ hbl).trans cB
        have hpo : po.length ≤ 1000000000 := by
          have h1 := hOr.pend.len
          have h2 : (rk r keep k).length ≤ k := rk_len r keep k
          have h3 : { newR r.size with all := rk r keep k }.all.length = (rk r keep k).length := rfl
          omega
        have hsecW := Lib.hid hsec
        have hrow := hOr.row
        clear hsec
        obtain ⟨n0, hn0⟩ : ∃ x, (r.all[k]).1 = x := ⟨_, rfl⟩
        obtain ⟨l0, hl0⟩ : ∃ x, (r.all[k]).2 = x := ⟨_, rfl⟩
        have HN0 : Hid (r.all[k] = (n0, l0)) := Lib.hid (by rw [← hn0, ← hl0])
        rw [hn0] at cA
        simp only [hn0] at cA'
        rw [hl0] at hsecW
        clear hn0 hl0
        rcases rkeeps_cases r keep k hkp with hc | ⟨hc, hke⟩ | ⟨hc, hke, hkv⟩
        · have g1 : (k : Int) - (r.lasts : Int) < 0 := by omega
          have hgo' := hgo
          go_wp2
          go_region_law (refine appG_stepS Try.underlying55 info_rw rfl (by decide) rfl (.tmp 48) (.tmp 56) rfl w.heap.size vo po.length (flat po) ?_ ?_ (wr.heap.size + 1) (some ⟨wr.heap.size, 0, none⟩) 1 1 [.int .i64 n0, .slice (some ⟨bs, os, none⟩) N cs] ?_ ?_ ?_ ?_ ?_ ?_ ?_ ?_; (simp [Act.eval]); (exact ownsRow_drew (hrow.alloc _)); (simp [Act.eval]); (exact (cells_blk wr _ _).drew); (simp); (intro u hu; simp at hu; rcases hu with rfl | rfl <;> rfl); (unfold maxLen; omega); (omega); (have := hB.size; simp; omega); intro A2 c2 w2 hrow2 hg2; have hb2 := (hOr.blk.alloc (.cells #[.int .i64 n0, .slice (some ⟨bs, os, none⟩) N cs] 84)).drew.grown hg2.by_ (fun e => hOr.ne e.symm); have q2 : w2.cell? ⟨go, 1, none⟩ = some vo := hb2.cell 1; have z2 := hb2.free 1)
          all_goals
            obtain ⟨hO2, hB2⟩ := rcut_push hOr hB hsecW.out hrow2 hg2.undrew
            go_wp2
            go_roundw
            case rel => exact ⟨k + 1, _, _, by go_num, by omega, by rw [HS.out, HN0.out]; exact hO2, hB2⟩
            case measure => simp [intOf]; omega
        · have g1 : ¬ (k : Int) - (r.lasts : Int) < 0 := by omega
          have hmb : ((keep.length : Int) == 0) = true := by rw [hke]; rfl
          clear hke
          go_wp2
          go_region_law (refine appG_stepS Try.underlying55 info_rw rfl (by decide) rfl (.tmp 48) (.tmp 56) rfl w.heap.size vo po.length (flat po) ?_ ?_ (wr.heap.size + 1) (some ⟨wr.heap.size, 0, none⟩) 1 1 [.int .i64 n0, .slice (some ⟨bs, os, none⟩) N cs] ?_ ?_ ?_ ?_ ?_ ?_ ?_ ?_; (simp [Act.eval]); (exact ownsRow_drew (hrow.alloc _)); (simp [Act.eval]); (exact (cells_blk wr _ _).drew); (simp); (intro u hu; simp at hu; rcases hu with rfl | rfl <;> rfl); (unfold maxLen; omega); (omega); (have := hB.size; simp; omega); intro A2 c2 w2 hrow2 hg2; have hb2 := (hOr.blk.alloc (.cells #[.int .i64 n0, .slice (some ⟨bs, os, none⟩) N cs] 84)).drew.grown hg2.by_ (fun e => hOr.ne e.symm); have q2 : w2.cell? ⟨go, 1, none⟩ = some vo := hb2.cell 1; have z2 := hb2.free 1)
          all_goals
            obtain ⟨hO2, hB2⟩ := rcut_push hOr hB hsecW.out hrow2 hg2.undrew
            go_wp2
            go_roundw
            case rel => exact ⟨k + 1, _, _, by go_num, by omega, by rw [HS.out, HN0.out]; exact hO2, hB2⟩
            case measure => simp [intOf]; omega
        · obtain ⟨q, hq⟩ : ∃ q, q = k - r.lasts := ⟨_, rfl⟩
          rw [← hq] at hkv
          have hsub : (k : Int) - (r.lasts : Int) = (q : Int) := by omega
          obtain ⟨bk, ok, hkA, hbk, hck⟩ := hk.form (by simpa using hke)
          have hcb := hck _ _ hkv
          have hcb' : wr.cell? ⟨bk, ok + q % keep.length, none⟩ = some (.bool true) := (hB.cell (p := ⟨bk, ok + q % keep.length, none⟩) hbk).trans hcb
          have hm0 : 0 < keep.length := List.length_pos_iff.2 hke
          have hmod : q % keep.length < keep.length := Nat.mod_lt _ hm0
          have hmb : ((keep.length : Int) == 0) = false := by simp; exact hke
          have hi0 : 0 ≤ (q : Int) % (keep.length : Int) := by omega
          have hi1 : (q : Int) % (keep.length : Int) < (keep.length : Int) := Int.emod_lt_of_pos _ (by omega)
          have hi2 : ((q : Int) % (keep.length : Int)).toNat = q % keep.length := by rw [← Int.natCast_emod]; exact Int.toNat_natCast _
          clear hcb hkv hck hq
          subst hkA
          go_wp2
          go_region_law (refine appG_stepS Try.underlying55 info_rw rfl (by decide) rfl (.tmp 48) (.tmp 56) rfl w.heap.size vo po.length (flat po) ?_ ?_ (wr.heap.size + 1) (some ⟨wr.heap.size, 0, none⟩) 1 1 [.int .i64 n0, .slice (some ⟨bs, os, none⟩) N cs] ?_ ?_ ?_ ?_ ?_ ?_ ?_ ?_; (simp [Act.eval]); (exact ownsRow_drew (hrow.alloc _)); (simp [Act.eval]); (exact (cells_blk wr _ _).drew); (simp); (intro u hu; simp at hu; rcases hu with rfl | rfl <;> rfl); (unfold maxLen; omega); (omega); (have := hB.size; simp; omega); intro A2 c2 w2 hrow2 hg2; have hb2 := (hOr.blk.alloc (.cells #[.int .i64 n0, .slice (some ⟨bs, os, none⟩) N cs] 84)).drew.grown hg2.by_ (fun e => hOr.ne e.symm); have q2 : w2.cell? ⟨go, 1, none⟩ = some vo := hb2.cell 1; have z2 := hb2.free 1)
          all_goals
            obtain ⟨hO2, hB2⟩ := rcut_push hOr hB hsecW.out hrow2 hg2.undrew
            go_wp2
            go_roundw
            case rel => exact ⟨k + 1, _, _, by go_num, by omega, by rw [HS.out, HN0.out]; exact hO2, hB2⟩
            case measure => simp [intOf]; omega
      · rw [if_neg hkp, List.append_nil] at HS
        obtain ⟨hc, hke, hkv⟩ := rkeeps_no r keep k hkp
        obtain ⟨q, hq⟩ : ∃ q, q = k - r.lasts := ⟨_, rfl⟩
        rw [← hq] at hkv
        have hsub : (k : Int) - (r.lasts : Int) = (q : Int) := by omega
        obtain ⟨bk, ok, hkA, hbk, hck⟩ := hk.form (by simpa using hke)
        have hcb := hck _ _ hkv
        have hcb' : wr.cell? ⟨bk, ok + q % keep.length, none⟩ = some (.bool false) := (hB.cell (p := ⟨bk, ok + q % keep.length, none⟩) hbk).trans hcb
        have hm0 : 0 < keep.length := List.length_pos_iff.2 hke
        have hmod : q % keep.length < keep.length := Nat.mod_lt _ hm0
        have hmb : ((keep.length : Int) == 0) = false := by simp; exact hke
        have hi0 : 0 ≤ (q : Int) % (keep.length : Int) := by omega
        have hi1 : (q : Int) % (keep.length : Int) < (keep.length : Int) := Int.emod_lt_of_pos _ (by omega)
        have hi2 : ((q : Int) % (keep.length : Int)).toNat = q % keep.length := by rw [← Int.natCast_emod]; exact Int.toNat_natCast _
        clear hcb hkv hck hq
        subst hkA
        go_wp2
        go_roundw
        case rel => exact ⟨k + 1, vo, po, by go_num, by omega, by rw [HS.out]; exact hOr, hB⟩
        case measure => simp [intOf]; omega
    · have hke : k = r.all.length := by omega
      have HKE := Lib.hid hke
      clear hke
      have hgk : ¬ (k : Int) < (r.all.length : Int) := by omega
      obtain ⟨Ao, co, eo, _, _, _⟩ := ownsRow_shape hOr.row
      have hpo := hOr.pend.len
      have q1 : wr.cell? ⟨go, 1, none⟩ = some (.slice Ao (rk r keep k).length co) := by
        have : wr.cell? ⟨go, 1, none⟩ = some vo := hOr.blk.cell 1
        rw [this, eo, hpo]
      have q2 : wr.cell? ⟨go, 2, none⟩ = some (.int .i64 0) := hOr.blk.cell 2
      have z2 := hOr.blk.free 2
      clear eo hpo
      go_wp2
      go_ret
      have hend : RefOf (wr.setCell ⟨go, 2, none⟩ (.int .i64 ((rk r keep k).length : Nat))) w.heap.size go { newR r.size with all := rk r keep k, lasts := (rk r keep k).length } vo po := hOr.set_ 2 _ rfl rfl
      refine ⟨go, rfl, ⟨vo, po, ?_⟩, hB.setCell (p := ⟨go, 2, none⟩) hgo _⟩
      have e2 : rk r keep k = rkept r keep := by rw [HKE.out]; exact rk_all r keep hle
      unfold rcutS
      rw [← e2]
      exact hend
end Go.Proofs.Ytobdbkhjdhnooaa
