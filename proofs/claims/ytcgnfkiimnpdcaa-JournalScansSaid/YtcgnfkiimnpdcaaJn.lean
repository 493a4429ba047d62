/-
  Plain law: a script on a journal, and a power cut behind it.
-/
import Derived.Test.YtcgnfkiimnpdcaaJd
import Derived.Test.YtcgnfkiimnpdcaaJh
set_option linter.unusedVariables false
namespace Go.Proofs.Ytcgnfkiimnpdcaa
open Go.RowKit

theorem burn_keeps (s : DS) : (burnS s).now = s.now ∧ (burnS s).lasts = s.lasts ∧ (burnS s).pend = s.pend ∧ (burnS s).size = s.size := by
  unfold burnS
  split
  · exact ⟨rfl, rfl, rfl, rfl⟩
  · split <;> exact ⟨rfl, rfl, rfl, rfl⟩
theorem applyW_val (c : Int → Option (List Int)) (qs : List (Int × List Int)) (n : Int) : (∃ x, (n, x) ∈ qs ∧ applyW c qs n = some x) ∨ ((∀ x, (n, x) ∉ qs) ∧ applyW c qs n = c n) := by
  induction qs generalizing c with
  | nil => exact .inr ⟨fun x h => (by cases h), rfl⟩
  | cons q r ih =>
    have e : applyW c (q :: r) = applyW (updC c q.1 q.2) r := rfl
    rw [e]
    rcases ih (updC c q.1 q.2) with ⟨x, h1, h2⟩ | ⟨h1, h2⟩
    · exact .inl ⟨x, List.mem_cons_of_mem _ h1, h2⟩
    · rw [h2]
      by_cases hn : n = q.1
      · left
        refine ⟨q.2, by rw [hn]; exact List.mem_cons_self, ?_⟩
        unfold updC
        rw [if_pos hn]
      · right
        refine ⟨fun x hx => ?_, ?_⟩
        · rcases List.mem_cons.1 hx with e | e
          · exact hn (by rw [← e])
          · exact h1 x e
        · unfold updC
          rw [if_neg hn]
theorem kept_mem {α : Type} {qs : List α} {keep : List Bool} {k : Nat} {x : α} (h : x ∈ keptW qs keep k) : x ∈ qs := by
  unfold keptW at h
  obtain ⟨y, hy, rfl⟩ := List.mem_map.1 h
  have := (List.mem_filter.1 hy).1
  exact List.mem_of_mem_take (List.fst_mem_of_mem_zipIdx this)

/-- What lasts at a place of the area. -/
def last (frm : Nat) (s : DS) (i : Nat) : List Int := (s.lasts ((frm : Int) + (i : Int))).getD zeroSec
/-- The sectors that are written so far: the first nxt ones of the records l'; of these all that sy of the records l take last. -/
structure PC (z : Int) (frm cnt : Nat) (E : Int) (base : Nat → List Int) (s : DS) (nxt : Nat) (l' l : List (List Int)) (sy : Nat) : Prop where
  size : s.size = z
  fits : (frm : Int) + cnt ≤ z
  ok : ∀ b ∈ l', 0 < b.length ∧ b.length ≤ 8000
  tot : total l' ≤ cnt
  nx : nxt ≤ total l'
  la : ∀ i, i < cnt → last frm s i = base i ∨ (i < nxt ∧ (lay E 0 0 l')[i]? = some (last frm s i))
  pe : ∀ n x, (n, x) ∈ s.pend → ∃ i : Nat, n = (frm : Int) + (i : Int) ∧ i < nxt ∧ (lay E 0 0 l')[i]? = some x
  cov : ∀ i, i < nxt → (∃ x, ((frm : Int) + (i : Int), x) ∈ s.pend) ∨ (lay E 0 0 l')[i]? = some (last frm s i)
  sl : sy ≤ l.length
  sc : ∀ i, i < total (l.take sy) → i < nxt ∧ (lay E 0 0 l')[i]? = some (last frm s i)
  fu : s.fuse ≤ 9223372036854775807
  pl : s.pend.length ≤ nxt
section
variable {z : Int} {frm cnt : Nat} {E : Int} {base : Nat → List Int} {s : DS} {nxt : Nat} {l' l : List (List Int)} {sy : Nat}
/-- Another state with the same sectors. -/
theorem PC.same (h : PC z frm cnt E base s nxt l' l sy) {s' : DS} (e1 : s'.size = s.size) (e2 : s'.lasts = s.lasts) (e3 : s'.pend = s.pend) (e4 : s'.fuse ≤ 9223372036854775807) : PC z frm cnt E base s' nxt l' l sy := by
  have el : ∀ i, last frm s' i = last frm s i := fun i => by unfold last; rw [e2]
  refine ⟨e1.trans h.size, h.fits, h.ok, h.tot, h.nx, fun i hi => ?_, fun n x hx => h.pe n x (e3 ▸ hx), fun i hi => ?_, h.sl, fun i hi => ?_, e4, by rw [e3]; exact h.pl⟩
  · rw [el]; exact h.la i hi
  · rw [el, e3]; exact h.cov i hi
  · rw [el]; exact h.sc i hi
theorem PC.burn (h : PC z frm cnt E base s nxt l' l sy) : PC z frm cnt E base (burnS s) nxt l' l sy :=
  h.same (burn_keeps s).2.2.2 (burn_keeps s).2.1 (burn_keeps s).2.2.1 (burn_bd s h.fu).1
theorem lay_more (E : Int) (l : List (List Int)) (b : List Int) {i : Nat} (hi : i < total l) : (lay E 0 0 (l ++ [b]))[i]? = (lay E 0 0 l)[i]? := by
  rw [lay_app, List.getElem?_append_left (by rw [lay_len]; exact hi)]
theorem lay_last (E : Int) (l : List (List Int)) (b : List Int) {p : Nat} (hp : p < partsN b.length) : (lay E 0 0 (l ++ [b]))[total l + p]? = some (jsec E (total l + p) l.length p b) := by
  rw [lay_app, List.getElem?_append_right (by rw [lay_len]; omega), lay_len, Nat.add_sub_cancel_left, Nat.zero_add, Nat.zero_add, lay_at E _ _ b [] p hp]
theorem total_snoc (l : List (List Int)) (b : List Int) : total (l ++ [b]) = total l + partsN b.length := by simp [total]
/-- A record more is to be written. -/
theorem PC.open_ (h : PC z frm cnt E base s nxt l l sy) {b : List Int} (hb : 0 < b.length ∧ b.length ≤ 8000) (hr : total l + partsN b.length ≤ cnt) : PC z frm cnt E base s nxt (l ++ [b]) l sy := by
  have hn := h.nx
  refine ⟨h.size, h.fits, fun x hx => ?_, by rw [total_snoc]; exact hr, by rw [total_snoc]; omega, fun i hi => ?_, fun n x hx => ?_, fun i hi => ?_, h.sl, fun i hi => ?_, h.fu, h.pl⟩
  · rcases List.mem_append.1 hx with hx | hx
    · exact h.ok x hx
    · rw [List.mem_singleton.1 hx]; exact hb
  · rcases h.la i hi with h1 | ⟨h1, h2⟩
    · exact .inl h1
    · exact .inr ⟨h1, by rw [lay_more E l b (by omega)]; exact h2⟩
  · obtain ⟨i, h1, h2, h3⟩ := h.pe n x hx
    exact ⟨i, h1, h2, by rw [lay_more E l b (by omega)]; exact h3⟩
  · rw [lay_more E l b (by omega)]
    exact h.cov i hi
  · obtain ⟨h1, h2⟩ := h.sc i hi
    exact ⟨h1, by rw [lay_more E l b (by omega)]; exact h2⟩
/-- A sector is written. -/
theorem PC.write (h : PC z frm cnt E base s nxt l' l sy) {x : List Int} (hn : nxt < total l') (hx : (lay E 0 0 l')[nxt]? = some x) : PC z frm cnt E base (wroteS (burnS s) ((frm : Int) + (nxt : Int)) x) (nxt + 1) l' l sy := by
  have hb := burn_keeps s
  have el : ∀ i, last frm (wroteS (burnS s) ((frm : Int) + (nxt : Int)) x) i = last frm s i := fun i => by
    unfold last
    show ((burnS s).lasts _).getD _ = _
    rw [hb.2.1]
  have ep : (wroteS (burnS s) ((frm : Int) + (nxt : Int)) x).pend = s.pend ++ [((frm : Int) + (nxt : Int), x)] := by
    show (burnS s).pend ++ _ = _
    rw [hb.2.2.1]
  refine ⟨hb.2.2.2.trans h.size, h.fits, h.ok, h.tot, hn, fun i hi => ?_, fun n y hy => ?_, fun i hi => ?_, h.sl, fun i hi => ?_, (burn_bd s h.fu).1, ?_⟩
  · rw [el]
    rcases h.la i hi with h1 | ⟨h1, h2⟩
    · exact .inl h1
    · exact .inr ⟨by omega, h2⟩
  · rw [ep] at hy
    rcases List.mem_append.1 hy with hy | hy
    · obtain ⟨i, h1, h2, h3⟩ := h.pe n y hy
      exact ⟨i, h1, by omega, h3⟩
    · have := List.mem_singleton.1 hy
      injection this with e1 e2
      subst e1 e2
      exact ⟨nxt, rfl, by omega, hx⟩
  · rw [el, ep]
    rcases Nat.lt_or_ge i nxt with hlt | hge
    · rcases h.cov i hlt with ⟨y, hy⟩ | h1
      · exact .inl ⟨y, List.mem_append.2 (.inl hy)⟩
      · exact .inr h1
    · obtain rfl : i = nxt := by omega
      exact .inl ⟨x, List.mem_append.2 (.inr List.mem_cons_self)⟩
  · rw [el]
    obtain ⟨h1, h2⟩ := h.sc i hi
    exact ⟨by omega, h2⟩
  · rw [ep, List.length_append]
    have := h.pl
    simp
    omega
/-- All is synced. -/
theorem PC.synced (h : PC z frm cnt E base s (total l) l l sy) : PC z frm cnt E base (syncedS (burnS s)) (total l) l l l.length := by
  have hb := burn_keeps s
  have ev : ∀ i, last frm (syncedS (burnS s)) i = (applyW s.lasts s.pend ((frm : Int) + (i : Int))).getD zeroSec := fun i => by
    unfold last
    show (applyW (burnS s).lasts (burnS s).pend _).getD _ = _
    rw [hb.2.1, hb.2.2.1]
  have hal : ∀ i, i < total l → (lay E 0 0 l)[i]? = some (last frm (syncedS (burnS s)) i) := fun i hi => by
    rw [ev]
    rcases applyW_val s.lasts s.pend ((frm : Int) + (i : Int)) with ⟨x, h1, h2⟩ | ⟨h1, h2⟩
    · rw [h2]
      obtain ⟨i', e, _, h3⟩ := h.pe _ _ h1
      obtain rfl : i = i' := by omega
      exact h3
    · rw [h2]
      rcases h.cov i hi with ⟨x, hx⟩ | h3
      · exact absurd hx (h1 x)
      · exact h3
  refine ⟨hb.2.2.2.trans h.size, h.fits, h.ok, h.tot, h.nx, fun i hi => ?_, fun n x hx => (by cases hx), fun i hi => .inr (hal i hi), Nat.le_refl _, fun i hi => ?_, (burn_bd s h.fu).1, Nat.zero_le _⟩
  · rcases Nat.lt_or_ge i (total l) with hlt | hge
    · exact .inr ⟨hlt, hal i hlt⟩
    · rw [ev]
      rcases applyW_val s.lasts s.pend ((frm : Int) + (i : Int)) with ⟨x, h1, h2⟩ | ⟨h1, h2⟩
      · obtain ⟨i', e, h4, _⟩ := h.pe _ _ h1
        omega
      · rw [h2]
        exact h.la i hi
  · rw [List.take_of_length_le (Nat.le_refl _)] at hi
    exact ⟨hi, hal i hi⟩

/-- The parts of a record are written, as far as the disk lets. -/
theorem PC.put {b : List Int} : ∀ (r p : Nat) (s : DS) (j : JS), r + p = partsN b.length → j.frm = frm → j.E = E → j.rcs = l.length → j.over = false → j.nxt = total l + p → PC z frm cnt E base s j.nxt (l ++ [b]) l sy →
    (∃ s', putE b r p s j = (true, s', { j with nxt := total (l ++ [b]) }) ∧ PC z frm cnt E base s' (total (l ++ [b])) (l ++ [b]) l sy) ∨
    (∃ s' q, putE b r p s j = (false, s', { j with nxt := q, over := true }) ∧ q < total (l ++ [b]) ∧ PC z frm cnt E base s' q (l ++ [b]) l sy)
  | 0, p, s, j, hp, h1, h2, h3, h4, h5, h => by
    left
    have e : total (l ++ [b]) = j.nxt := by rw [total_snoc, h5]; omega
    refine ⟨s, ?_, e ▸ h⟩
    rw [e]
    rfl
  | r + 1, p, s, j, hp, h1, h2, h3, h4, h5, h => by
    have hlt : j.nxt < total (l ++ [b]) := by rw [total_snoc, h5]; omega
    have hx : (lay E 0 0 (l ++ [b]))[j.nxt]? = some (jsec j.E j.nxt j.rcs p b) := by
      rw [h2, h3, h5]
      exact lay_last E l b (by omega)
    unfold putE
    by_cases hw : (writeE s (j.frm + j.nxt) (jsec j.E j.nxt j.rcs p b)).1 = 0
    · rw [if_pos hw]
      have e : (writeE s (j.frm + j.nxt) (jsec j.E j.nxt j.rcs p b)).2 = wroteS (burnS s) ((frm : Int) + (j.nxt : Int)) (jsec j.E j.nxt j.rcs p b) := by
        unfold writeE at hw ⊢
        rw [h1] at hw ⊢
        split at hw
        · simp at hw
        · rename_i g1
          rw [if_neg g1]
          split at hw
          · simp at hw
          · rename_i g2
            rw [if_neg g2]
            split at hw
            · simp at hw
            · rename_i g3
              rw [if_neg g3]
      rw [e]
      exact PC.put r (p + 1) _ { j with nxt := j.nxt + 1 } (by omega) h1 h2 h3 h4 (by show j.nxt + 1 = _; omega) (h.write hlt hx)
    · rw [if_neg hw]
      right
      refine ⟨_, j.nxt, rfl, hlt, ?_⟩
      have hb := burn_keeps s
      have hsame : (writeE s (j.frm + j.nxt) (jsec j.E j.nxt j.rcs p b)).2 = s ∨ (writeE s (j.frm + j.nxt) (jsec j.E j.nxt j.rcs p b)).2 = burnS s := by
        unfold writeE at hw ⊢
        split
        · exact .inl rfl
        · rename_i g1
          rw [if_neg g1] at hw
          split
          · exact .inl rfl
          · rename_i g2
            rw [if_neg g2] at hw
            split
            · exact .inr rfl
            · rename_i g3
              rw [if_neg g3] at hw
              exact absurd rfl hw
      rcases hsame with e | e
      · rw [e]; exact h
      · rw [e]; exact h.burn
end

theorem lay_good (E : Int) : ∀ (l : List (List Int)), (∀ b ∈ l, 0 < b.length ∧ b.length ≤ 8000) → ∀ {at_ num i : Nat} {x : List Int}, (lay E at_ num l)[i]? = some x → ¬ Bad E x
  | [], _, at_, num, i, x, h => by simp [lay] at h
  | b :: t, hl, at_, num, i, x, h => by
    rcases Nat.lt_or_ge i (partsN b.length) with hlt | hge
    · rw [lay_at E at_ num b t i hlt] at h
      injection h with h
      rw [← h]
      exact not_bad (partsN_lt hlt)
    · rw [lay_past E at_ num b t i hge] at h
      exact lay_good E t (fun y hy => hl y (List.mem_cons_of_mem _ hy)) h
/-- A journal of an area: the records l that were answered OK, of which sy were there at the last Sync. -/
structure PL (z : Int) (frm cnt : Nat) (E : Int) (base : Nat → List Int) (s : DS) (j : JS) (l : List (List Int)) (sy : Nat) : Prop where
  jf : j.frm = frm
  jc : j.cnt = cnt
  jE : j.E = E
  jr : j.rcs = l.length
  st : (PC z frm cnt E base s j.nxt l l sy ∧ j.nxt = total l) ∨ (j.over = true ∧ ∃ b, PC z frm cnt E base s j.nxt (l ++ [b]) l sy ∧ j.nxt < total (l ++ [b]))
section
variable {z : Int} {frm cnt : Nat} {E : Int} {base : Nat → List Int} {s : DS} {j : JS} {l : List (List Int)} {sy : Nat}
theorem PL.start {s : DS} (hs : s.size = z) (hz : (frm : Int) + cnt ≤ z) (hp : s.pend = []) (hf : s.fuse ≤ 9223372036854775807) (hb : ∀ i, i < cnt → last frm s i = base i) : PL z frm cnt E base s ⟨frm, cnt, E, 0, 0, false⟩ [] 0 :=
  ⟨rfl, rfl, rfl, rfl, .inl ⟨⟨hs, hz, fun b hb => (by cases hb), Nat.zero_le _, Nat.zero_le _, fun i hi => .inl (hb i hi), fun n x hx => (by rw [hp] at hx; cases hx), fun i hi => absurd hi (by show ¬ i < 0; omega), Nat.le_refl _, fun i hi => absurd hi (by simp [total]), hf, (by rw [hp]; exact Nat.le_refl _)⟩, rfl⟩⟩
theorem PL.pc (h : PL z frm cnt E base s j l sy) : ∃ l', PC z frm cnt E base s j.nxt l' l sy := by
  rcases h.st with h1 | ⟨_, b, h1, _⟩
  · exact ⟨_, h1.1⟩
  · exact ⟨_, h1⟩
theorem PL.fuse (h : PL z frm cnt E base s j l sy) (n : Int) (hn : n ≤ 9223372036854775807) : PL z frm cnt E base { s with fuse := max n (-1) } j l sy := by
  have hm : max n (-1) ≤ 9223372036854775807 := by omega
  refine ⟨h.jf, h.jc, h.jE, h.jr, ?_⟩
  rcases h.st with ⟨h1, h2⟩ | ⟨h0, b, h1, h2⟩
  · exact .inl ⟨h1.same rfl rfl rfl hm, h2⟩
  · exact .inr ⟨h0, b, h1.same rfl rfl rfl hm, h2⟩
theorem PL.sync (h : PL z frm cnt E base s j l sy) : PL z frm cnt E base (jsyncE s j).2.1 (jsyncE s j).2.2 l (if (jsyncE s j).1 = 0 then l.length else sy) := by
  unfold jsyncE
  by_cases ho : j.over = true
  · rw [if_pos ho]
    exact h
  · rw [if_neg ho]
    rcases h.st with ⟨h1, h2⟩ | ⟨h0, _⟩
    · by_cases hs : (syncE s).1 = 0
      · rw [if_pos hs]
        have e : (syncE s).2 = syncedS (burnS s) := by
          unfold syncE at hs ⊢
          split at hs
          · simp at hs
          · rename_i g1
            rw [if_neg g1]
            split at hs
            · simp at hs
            · rename_i g2
              rw [if_neg g2]
        refine ⟨h.jf, h.jc, h.jE, h.jr, .inl ⟨?_, h2⟩⟩
        show PC z frm cnt E base (syncE s).2 j.nxt l l l.length
        rw [e, h2]
        rw [h2] at h1
        exact h1.synced
      · rw [if_neg hs]
        refine ⟨h.jf, h.jc, h.jE, h.jr, .inl ⟨?_, h2⟩⟩
        show PC z frm cnt E base (syncE s).2 j.nxt l l sy
        have e : (syncE s).2 = s ∨ (syncE s).2 = burnS s := by
          unfold syncE at hs ⊢
          split
          · exact .inl rfl
          · rename_i g1
            rw [if_neg g1] at hs
            split
            · exact .inr rfl
            · rename_i g2
              rw [if_neg g2] at hs
              exact absurd rfl hs
        rcases e with e | e
        · rw [e]; exact h1
        · rw [e]; exact h1.burn
    · exact absurd h0 ho
theorem PL.append (h : PL z frm cnt E base s j l sy) (b : List Int) : PL z frm cnt E base (appendE s j b).2.1 (appendE s j b).2.2 (if (appendE s j b).1 = 0 then l ++ [b] else l) sy := by
  unfold appendE
  by_cases ho : j.over = true
  · rw [if_pos ho]; exact h
  · rw [if_neg ho]
    by_cases h0 : b.length = 0
    · rw [if_pos h0]; exact h
    · rw [if_neg h0]
      by_cases h1 : 8000 < b.length
      · rw [if_pos h1]; exact h
      · rw [if_neg h1]
        by_cases h2 : (j.cnt : Int) - j.nxt < partsN b.length
        · rw [if_pos h2]; exact h
        · rw [if_neg h2]
          rcases h.st with ⟨g1, g2⟩ | ⟨g0, _⟩
          · have hc := h.jc
            rw [g2] at g1 h2
            have g3 := g1.open_ (b := b) ⟨by omega, by omega⟩ (by omega)
            have hov : j.over = false := by simpa using ho
            rcases PC.put (b := b) (partsN b.length) 0 s j (by omega) h.jf h.jE h.jr hov (by omega) (by rw [g2]; exact g3) with ⟨s', e, hp⟩ | ⟨s', q, e, hq, hp⟩
            · rw [e]
              refine ⟨h.jf, h.jc, h.jE, ?_, .inl ⟨?_, rfl⟩⟩
              · show j.rcs + 1 = (l ++ [b]).length
                rw [h.jr]; simp
              · show PC z frm cnt E base s' (total (l ++ [b])) (l ++ [b]) (l ++ [b]) sy
                refine ⟨hp.size, hp.fits, hp.ok, hp.tot, hp.nx, hp.la, hp.pe, hp.cov, ?_, fun i hi => ?_, hp.fu, hp.pl⟩
                · have := hp.sl; simp; omega
                · refine hp.sc i ?_
                  rw [List.take_append_of_le_length hp.sl] at hi
                  exact hi
            · rw [e]
              exact ⟨h.jf, h.jc, h.jE, h.jr, .inr ⟨rfl, b, hp, hq⟩⟩
          · exact absurd g0 ho

/-- THE law: what is found behind a power cut is the front of what was answered OK, and has what was synced. -/
theorem PL.cut (h : PL z frm cnt E base s j l sy) (hbad : ∀ i, i < cnt → Bad E (base i)) (keep : List Bool) :
    ∃ k, k ≤ l.length ∧ sy ≤ k ∧ scanF (fun i : Nat => rd (cutS s keep) ((frm : Int) + (i : Int))) cnt E (cnt + 1) 0 0 = l.take k := by
  have key : ∀ l', PC z frm cnt E base s j.nxt l' l sy → ∃ k, k ≤ l'.length ∧ scanF (fun i : Nat => rd (cutS s keep) ((frm : Int) + (i : Int))) cnt E (cnt + 1) 0 0 = l'.take k ∧ (0 < k → 0 + total (l'.take k) ≤ j.nxt) ∧ ∀ q, q ≤ l'.length → (∀ h : 0 < q, 0 + total (l'.take q) ≤ total (l.take sy)) → q ≤ k := by
    intro l' h
    have ev : ∀ i : Nat, rd (cutS s keep) ((frm : Int) + (i : Int)) = (applyW s.lasts (keptW s.pend keep s.pend.length) ((frm : Int) + (i : Int))).getD zeroSec := fun i => rfl
    have hval : ∀ i : Nat, (i < j.nxt ∧ (lay E 0 0 l')[i]? = some (rd (cutS s keep) ((frm : Int) + (i : Int)))) ∨ rd (cutS s keep) ((frm : Int) + (i : Int)) = last frm s i := fun i => by
      rw [ev]
      rcases applyW_val s.lasts (keptW s.pend keep s.pend.length) ((frm : Int) + (i : Int)) with ⟨x, h1, h2⟩ | ⟨h1, h2⟩
      · obtain ⟨i', e, h3, h4⟩ := h.pe _ _ (kept_mem h1)
        obtain rfl : i = i' := by omega
        rw [h2]
        exact .inl ⟨h3, h4⟩
      · rw [h2]
        exact .inr rfl
    have hnx := h.nx
    have htot := h.tot
    refine scan_front _ cnt E j.nxt (total (l.take sy)) l' (cnt + 1) 0 0 (by omega) h.ok (by omega) (by omega) (fun i _ hi => ?_) (fun i _ hi => ?_)
    · rw [Nat.sub_zero]
      rcases hval i with h1 | h1
      · exact .inl h1
      · rcases h.la i hi with h2 | ⟨h2, h3⟩
        · right
          show Bad E (rd (cutS s keep) ((frm : Int) + (i : Int)))
          rw [h1, h2]
          exact hbad i hi
        · left
          refine ⟨h2, ?_⟩
          show _ = some (rd (cutS s keep) ((frm : Int) + (i : Int)))
          rw [h1]
          exact h3
    · obtain ⟨h2, h3⟩ := h.sc i hi
      refine ⟨h2, ?_⟩
      have hg : (lay E 0 0 l')[i]? = some (rd (cutS s keep) ((frm : Int) + (i : Int))) := by
        rcases hval i with h1 | h1
        · exact h1.2
        · rw [h1]; exact h3
      exact lay_good E l' h.ok hg
  rcases h.st with ⟨h1, h2⟩ | ⟨_, b, h1, h2⟩
  · obtain ⟨k, hk, hs, _, hq⟩ := key l h1
    exact ⟨k, hk, hq sy h1.sl (fun _ => by omega), hs⟩
  · obtain ⟨k, hk, hs, hN, hq⟩ := key (l ++ [b]) h1
    have hkl : k ≤ l.length := by
      rcases Nat.lt_or_ge l.length k with hlt | hge
      · exfalso
        have := hN (by omega)
        rw [List.take_of_length_le (by simp at hk ⊢; omega)] at this
        omega
      · exact hge
    refine ⟨k, hkl, hq sy (by have := h1.sl; simp; omega) (fun _ => ?_), ?_⟩
    · rw [List.take_append_of_le_length h1.sl]
      omega
    · rw [hs, List.take_append_of_le_length hkl]
end
end Go.Proofs.Ytcgnfkiimnpdcaa
