/-
  Maps: a look without its mark, delete, len; pages in memory: what they hold, told by plain data.
-/
import Derived.Test.YtkjbicenhncpeaaPi
import Derived.Test.YtkjbicenhncpeaaDx
set_option linter.unusedVariables false
namespace Go.Proofs.Ytkjbicenhncpeaa
open Go.RowKit
open Go.ChangeMaps (setBlock heap_setBlock_same heap_setBlock_other)

theorem nodup_le : ∀ (l m : List Int), l.Nodup → (∀ x ∈ l, x ∈ m) → l.length ≤ m.length
  | [], m, _, _ => Nat.zero_le _
  | x :: r, m, h, hm => by
    obtain ⟨m1, m2, rfl⟩ := List.append_of_mem (hm x (by simp))
    have hx : x ∉ r := (List.nodup_cons.1 h).1
    have := nodup_le r (m1 ++ m2) (List.nodup_cons.1 h).2 (fun y hy => by
      have hy' := hm y (by simp [hy])
      have hne : y ≠ x := fun e => hx (e ▸ hy)
      simp only [List.mem_append, List.mem_cons] at hy' ⊢
      rcases hy' with h1 | h1 | h1
      · exact .inl h1
      · exact absurd h1 hne
      · exact .inr h1)
    simp only [List.length_append, List.length_cons] at this ⊢
    omega

/-- A map without a key. -/
def delM (f : Int → Option Value) (k : Int) : Int → Option Value := fun j => if j = k then none else f j
theorem look_some {L : List Ent} {k : Int} : look L k ≠ none ↔ k ∈ L.map (·.1) := by
  constructor
  · intro h
    by_cases hm : k ∈ L.map (·.1)
    · exact hm
    · exact absurd (look_none hm) h
  · intro h
    obtain ⟨L1, u, b, L2, rfl, hn⟩ := split_at h
    rw [look_mid hn]; simp
theorem look_app {L1 L2 : List Ent} {j : Int} : look (L1 ++ L2) j = (look L1 j).or (look L2 j) := by
  induction L1 with
  | nil => simp [look]
  | cons e r ih =>
    simp only [List.cons_append, look]
    by_cases h : e.1 = j
    · simp [h]
    · simp [h, ih]
theorem look_del {L1 L2 : List Ent} {k : Int} {u : Value} {b : Nat} (h : ((L1 ++ (k, u, b) :: L2).map (·.1)).Nodup) (j : Int) : look (L1 ++ L2) j = if j = k then none else look (L1 ++ (k, u, b) :: L2) j := by
  rw [List.map_append, List.map_cons, List.nodup_append, List.nodup_cons] at h
  obtain ⟨_, ⟨h2, _⟩, h3⟩ := h
  rw [look_app, look_app]
  by_cases e : j = k
  · subst e
    rw [if_pos rfl, look_none (fun hx => h3 j hx j (by simp) rfl), look_none h2]
    rfl
  · rw [if_neg e, look, if_neg (fun x => e x.symm)]
theorem TidyE.del {L1 L2 : List Ent} {k : Int} {u : Value} {b clk : Nat} (h : TidyE (L1 ++ (k, u, b) :: L2) clk) : TidyE (L1 ++ L2) clk := by
  have hs : (L1 ++ L2).Sublist (L1 ++ (k, u, b) :: L2) := List.Sublist.append (List.Sublist.refl _) (List.sublist_cons_self _ _)
  exact ⟨h.keys.sublist (hs.map _), h.borns.sublist (hs.map _), fun e he => h.old e (hs.subset he)⟩

section
variable {P : Program} {T K E : TypeId} {kd : IntKind} {w : World} {g : Nat} {f : Int → Option Value}
theorem MapIs.lookup1 (h : MapIs w g f) (hT : P.underlying T = some (.map K E)) (hK : P.underlying K = some (.int kd)) {z : Value} (hz : (zeroValue E).run P w = .ok z w) (k : Int) :
    (Instr.lookup T (.map (some g)) (.int .i64 k) false).run P w = .ok ((f k).getD z) w := by
  obtain ⟨L, clk, hb, ht, hf⟩ := h
  by_cases hm : k ∈ L.map (·.1)
  · obtain ⟨L1, u, b, L2, rfl, hn⟩ := split_at hm
    rw [hf, look_mid hn]
    simp [Instr.lookup, run_underlying hT, run_getObj hb, run_check hK, run_find hK, findP_mid hn]
  · rw [hf, look_none hm]
    simp [Instr.lookup, run_underlying hT, run_getObj hb, run_check hK, run_find hK, findP_none hm, hz]
theorem MapIs.delete (h : MapIs w g f) (hT : P.underlying T = some (.map K E)) (hK : P.underlying K = some (.int kd)) (k : Int) :
    ∃ w', (∀ ty, (Builtin.delete_ #[T, K] ty #[.map (some g), .int .i64 k]).run P w = .ok (.tuple #[]) w') ∧ MapIs w' g (delM f k) ∧ w.grownBy w' (some g) ∧ w'.heap.size = w.heap.size := by
  obtain ⟨L, clk, hb, ht, hf⟩ := h
  by_cases hm : k ∈ L.map (·.1)
  · obtain ⟨L1, u, b, L2, rfl, hn⟩ := split_at hm
    have he : (ents (L1 ++ (k, u, b) :: L2)).eraseIdxIfInBounds L1.length = ents (L1 ++ L2) := by
      apply Array.ext'
      unfold Array.eraseIdxIfInBounds
      rw [dif_pos (by simp [ents])]
      rw [Array.toList_eraseIdx]
      simp [ents, List.eraseIdx_append_of_length_le]
    refine ⟨setBlock w g (.map (ents (L1 ++ L2)) clk), fun ty => ?_, ⟨_, _, heap_setBlock_same hb _, ht.del, fun j => by rw [look_del ht.keys, delM, hf]⟩, grown_set hb, by simp [setBlock]⟩
    simp only [Builtin.delete_, Sem.run_bind, run_underlying hT, Result.andThen_ok, run_getObj hb, run_check hK, run_find hK, findP_mid hn, Nat.zero_add, he, List.getElem?_toArray, List.getElem?_cons_zero, List.getElem?_cons_succ, Sem.run_pure]
    rw [run_setObj hb]
    rfl
  · refine ⟨setBlock w g (.map (ents L) clk), fun ty => ?_, ⟨_, _, heap_setBlock_same hb _, ht, fun j => ?_⟩, grown_set hb, by simp [setBlock]⟩
    · simp only [Builtin.delete_, Sem.run_bind, run_underlying hT, Result.andThen_ok, run_getObj hb, run_check hK, run_find hK, findP_none hm, List.getElem?_toArray, List.getElem?_cons_zero, List.getElem?_cons_succ, Sem.run_pure]
      rw [run_setObj hb]
      rfl
    · unfold delM
      by_cases e : j = k
      · rw [if_pos e, e, look_none hm]
      · rw [if_neg e, hf]
theorem MapIs.len (h : MapIs w g f) (hT : P.underlying T = some (.map K E)) (used : List Int) (hnd : used.Nodup) (hk : ∀ k, k ∈ used ↔ f k ≠ none) (ty : TypeId) :
    (Builtin.len_ #[T] ty #[.map (some g)]).run P w = .ok (.int .i64 used.length) w := by
  obtain ⟨L, clk, hb, ht, hf⟩ := h
  have e : L.length = used.length := by
    have h1 := nodup_le (L.map (·.1)) used ht.keys (fun x hx => (hk x).2 (by rw [hf]; exact look_some.2 hx))
    have h2 := nodup_le used (L.map (·.1)) hnd (fun x hx => look_some.1 (by rw [← hf]; exact (hk x).1 hx))
    simp at h1 h2
    omega
  simp [Builtin.len_, run_underlying hT, run_getObj hb, goInt, Result.andThen, ents, e]
end

/-- delete, in a plain region. -/
theorem del_any {P : Program} {ops : Array Oper} {rest : List Oper} {o : Oper} {a : Act} {Q : Exit → Act → World → Prop} {w : World} (hgd : o.guard = none) (m x : Operand) (t k : TypeId)
    (ho : o.op = .call { callee := .builtin .delete, args := #[m, x], argTypes := #[t, k] }) (v u : Value) (hm : a.eval m = v) (hx : a.eval x = u) {w' : World}
    (hr : ∀ ty, (Builtin.delete_ #[t, k] ty #[v, u]).run P w = .ok (.tuple #[]) w') (h : wpList P ops Q rest (a.put o.dst (.tuple #[])) w') : wpList P ops Q (o :: rest) a w := by
  refine wpList_plain hgd fun K' hK' => ?_
  unfold Oper.wp
  simp [execOp, ho, resolve, invoke, builtin, hm, hx, hr, Result.andThen]
  exact hK' _ _ h

/-- The slice v is a page: 1024 bytes l, in a row of bytes. -/
def PageB (w : World) (v : Value) (l : List Int) : Prop :=
  ∃ b off c cur mk, v = .slice (some ⟨b, off, none⟩) 1024 c ∧ w.heap[b]? = some (.cells cur 5 mk) ∧ 1024 ≤ c ∧ c ≤ maxLen ∧ Cells w w.heap.size (some ⟨b, off, none⟩) (U8 l) ∧ l.length = 1024 ∧ Oct l
theorem PageB.keep {w w' : World} {v : Value} {l : List Int} (h : PageB w v l) (hk : BK w w') (hs : w.heap.size ≤ w'.heap.size) : PageB w' v l := by
  obtain ⟨b, off, c, cur, mk, rfl, hb, h1, h2, hc, hl, ho⟩ := h
  refine ⟨b, off, c, cur, mk, rfl, (hk b cur mk hb).trans hb, h1, h2, fun k u hu => ?_, hl, ho⟩
  obtain ⟨b', off', e, hlt, hcell⟩ := hc k u hu
  injection e with e
  injection e with e1 e2
  subst e1 e2
  exact ⟨b, off, rfl, by omega, (World.cell?_of_block (a := ⟨b, off + k, none⟩) (hk b cur mk hb)).trans hcell⟩
theorem own_page {w : World} {base : Nat} {v : Value} {l : List Int} (h : Own w base v l) (hl : l.length = 1024) (ho : Oct l) : PageB w v l := by
  rcases h.2 with ⟨_, h0⟩ | ⟨g, cap, cur, e, hb, hh, hn, hm, hc, ht⟩
  · omega
  · refine ⟨g, 0, cap, cur, (0, 0), by rw [e, hl], hh, by omega, hm, ?_, hl, ho⟩
    obtain ⟨A, c, e', _, _, hcell⟩ := h.shape
    rw [e] at e'
    injection e' with e1
    rw [e1]
    exact hcell

/-- Pages' state: where they begin, how many the pool holds, what each page is, the numbers of those in memory (those used last ahead), and what these hold (and whether it must be written). -/
structure PG where
  frm : Int
  pool : Int
  is : List Int
  used : List Int
  fr : Int → Option (List Int × Bool)
/-- The parts of pages in memory. -/
structure PP where
  gi : Nat
  gm : Nat
  vu : Value
  fm : Int → Option Value
  fb : Int → Nat
  fv : Int → Value
/-- The seven cells of pages. -/
def pcells (gd : Nat) (s : PG) (p : PP) (over : Bool) : Array Value :=
  #[.pointer (some ⟨gd, 0, none⟩), .int .i64 s.frm, .int .i64 s.pool, .slice (some ⟨p.gi, 0, none⟩) s.is.length s.is.length, .map (some p.gm), p.vu, .bool over]
/-- A frame: its number, its bytes, whether they must be written. -/
structure FrameAt (w : World) (f : Nat) (n : Int) (v : Value) (l : List Int) (d : Bool) : Prop where
  blk : Blk w f 75 #[.int .i64 n, v, .bool d]
  row : PageB w v l
/-- Block g is pages in the state s, over the disk gd, its parts p. -/
structure PagesOf (w : World) (g gd : Nat) (s : PG) (p : PP) : Prop where
  blk : Blk w g 69 (pcells gd s p false)
  row : Blk w p.gi 70 (I64 s.is).toArray
  map : MapIs w p.gm p.fm
  used : Nums w 0 p.vu s.used
  none_ : ∀ k, s.fr k = none → p.fm k = none
  some_ : ∀ k l d, s.fr k = some (l, d) → p.fm k = some (.pointer (some ⟨p.fb k, 0, none⟩)) ∧ FrameAt w (p.fb k) k (p.fv k) l d
/-- The blocks that pages may write, but for the disk's. -/
def FootP (g : Nat) (s : PG) (p : PP) (k : Nat) : Prop := k = g ∨ k = p.gi ∨ k = p.gm ∨ p.vu.ownBlock = some k ∨ ∃ n, s.fr n ≠ none ∧ p.fb n = k

theorem heap_lt {w : World} {k : Nat} {o : Obj} (h : w.heap[k]? = some o) : k < w.heap.size := by
  rcases Nat.lt_or_ge k w.heap.size with h' | h'
  · exact h'
  · rw [Array.getElem?_eq_none h'] at h; cases h
/-- The types of the blocks of cells that pages write. -/
def OfPages (t : TypeId) : Prop := t = 69 ∨ t = 70 ∨ t = 3 ∨ t = 75
theorem OfPages.free {t : TypeId} (h : OfPages t) : Free t := by
  rcases h with rfl | rfl | rfl | rfl <;> exact ⟨by decide, by decide⟩
theorem OfPages.notByte {t : TypeId} (h : OfPages t) : t ≠ 5 := by
  rcases h with rfl | rfl | rfl | rfl <;> decide
section
variable {w w' : World} {g gd : Nat} {s : PG} {p : PP}
/-- What the blocks of pages are. -/
theorem PagesOf.kind (h : PagesOf w g gd s p) (k : Nat) (hk : FootP g s p k) : (k = p.gm ∧ k < w.heap.size) ∨ ∃ cur t, OfPages t ∧ w.heap[k]? = some (.cells cur t (0, 0)) := by
  rcases hk with rfl | rfl | rfl | hk | ⟨n, hn, rfl⟩
  · exact .inr ⟨_, _, .inl rfl, h.blk⟩
  · exact .inr ⟨_, _, .inr (.inl rfl), h.row⟩
  · exact .inl ⟨rfl, h.map.lt⟩
  · obtain ⟨cur, hb⟩ := row_block h.used hk
    exact .inr ⟨cur, _, .inr (.inr (.inl rfl)), hb⟩
  · rcases hf : s.fr n with _ | ⟨l, d⟩
    · exact absurd hf hn
    · exact .inr ⟨_, _, .inr (.inr (.inr rfl)), (h.some_ n l d hf).2.blk⟩
theorem PagesOf.lt (h : PagesOf w g gd s p) (k : Nat) (hk : FootP g s p k) : k < w.heap.size := by
  rcases h.kind k hk with ⟨_, h1⟩ | ⟨cur, t, _, h1⟩
  · exact h1
  · exact heap_lt h1
theorem PagesOf.notByte (h : PagesOf w g gd s p) (k : Nat) (hk : FootP g s p k) (cur : Array Value) (mk : Nat × Nat) : w.heap[k]? ≠ some (.cells cur 5 mk) := by
  rcases h.kind k hk with ⟨rfl, _⟩ | ⟨cur', t, ht, h1⟩
  · exact h.map.notCells
  · rw [h1]
    intro e
    injection e with e
    injection e with _ e
    exact ht.notByte e
/-- Pages whose own blocks are as they were, and all rows of bytes, are as they were. -/
theorem PagesOf.keep (h : PagesOf w g gd s p) (hf : ∀ k, FootP g s p k → w'.heap[k]? = w.heap[k]?) (hk : BK w w') (hs : w.heap.size ≤ w'.heap.size) : PagesOf w' g gd s p where
  blk := (hf g (.inl rfl)).trans h.blk
  row := (hf _ (.inr (.inl rfl))).trans h.row
  map := h.map.block (hf _ (.inr (.inr (.inl rfl))))
  used := by
    refine ⟨h.used.1, ?_⟩
    rcases h.used.2 with h1 | ⟨b, cap, cur, e, hb, hh, rest⟩
    · exact .inl h1
    · exact .inr ⟨b, cap, cur, e, hb, (hf b (.inr (.inr (.inr (.inl (by rw [e]; rfl)))))).trans hh, rest⟩
  none_ := h.none_
  some_ := fun k l d hkd => by
    obtain ⟨h1, h2⟩ := h.some_ k l d hkd
    exact ⟨h1, ⟨(hf _ (.inr (.inr (.inr (.inr ⟨k, by rw [hkd]; simp, rfl⟩))))).trans h2.blk, h2.row.keep hk hs⟩⟩
theorem PagesOf.below (h : PagesOf w g gd s p) (hb : Below w.heap.size w w') : PagesOf w' g gd s p :=
  h.keep (fun k hk => hb.block k (h.lt k hk)) (BKA.of_below hb).b hb.size
end
end Go.Proofs.Ytkjbicenhncpeaa
