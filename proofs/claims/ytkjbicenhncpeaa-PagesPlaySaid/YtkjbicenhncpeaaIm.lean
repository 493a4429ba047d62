/-
  Maps with int keys, over the model's own map blocks: what they hold, and what each operation does.
-/
import Derived.Test.YtkjbicenhncpeaaKb
import Derived.Maps.RangeRun
set_option linter.unusedVariables false
namespace Go.Proofs.Ytkjbicenhncpeaa
open Go.RowKit
open Go.ChangeMaps (setBlock heap_setBlock_same heap_setBlock_other)

/-- An entry: its key, its value, its stamp. -/
abbrev Ent := Int × Value × Nat
def mkE (e : Ent) : MapEntry := ⟨.int .i64 e.1, e.2.1, e.2.2⟩
def ents (L : List Ent) : Array MapEntry := (L.map mkE).toArray
/-- What stands at a key. -/
def look : List Ent → Int → Option Value
  | [], _ => none
  | e :: r, k => if e.1 = k then some e.2.1 else look r k
structure TidyE (L : List Ent) (clk : Nat) : Prop where
  keys : (L.map (·.1)).Nodup
  borns : (L.map (·.2.2)).Nodup
  old : ∀ e ∈ L, e.2.2 < clk

def findP : List Ent → Int → Nat → Option (Nat × Value)
  | [], _, _ => none
  | e :: r, k, i => if e.1 = k then some (i, e.2.1) else findP r k (i + 1)
theorem findNow_eq (kd : IntKind) (k : Int) : ∀ (L : List Ent) (i : Nat), Instr.findNow (.int kd) (.int .i64 k) (L.map mkE) i = some (findP L k i)
  | [], i => rfl
  | e :: r, i => by
    have ih := findNow_eq kd k r (i + 1)
    simp only [List.map_cons, Instr.findNow, mkE, Instr.sameNow, if_true, findP]
    by_cases h : e.1 = k
    · subst h; simp
    · have h' : (k == e.1) = false := by rw [beq_eq_false_iff_ne]; exact fun x => h x.symm
      rw [h', if_neg h]
      exact ih
theorem findP_none {L : List Ent} {k : Int} (h : k ∉ L.map (·.1)) (i : Nat) : findP L k i = none := by
  induction L generalizing i with
  | nil => rfl
  | cons e r ih =>
    simp only [List.map_cons, List.mem_cons, not_or] at h
    rw [findP, if_neg (fun x => h.1 x.symm), ih h.2]
theorem findP_mid {L1 L2 : List Ent} {k : Int} {u : Value} {b : Nat} (h : k ∉ L1.map (·.1)) (i : Nat) : findP (L1 ++ (k, u, b) :: L2) k i = some (i + L1.length, u) := by
  induction L1 generalizing i with
  | nil => simp [findP]
  | cons e r ih =>
    simp only [List.map_cons, List.mem_cons, not_or] at h
    rw [List.cons_append, findP, if_neg (fun x => h.1 x.symm), ih h.2]
    simp; omega
theorem look_none {L : List Ent} {k : Int} (h : k ∉ L.map (·.1)) : look L k = none := by
  induction L with
  | nil => rfl
  | cons e r ih =>
    simp only [List.map_cons, List.mem_cons, not_or] at h
    rw [look, if_neg (fun x => h.1 x.symm), ih h.2]
theorem look_mid {L1 L2 : List Ent} {k : Int} {u : Value} {b : Nat} (h : k ∉ L1.map (·.1)) : look (L1 ++ (k, u, b) :: L2) k = some u := by
  induction L1 with
  | nil => simp [look]
  | cons e r ih =>
    simp only [List.map_cons, List.mem_cons, not_or] at h
    rw [List.cons_append, look, if_neg (fun x => h.1 x.symm), ih h.2]
theorem look_set {L1 L2 : List Ent} {k : Int} {u v : Value} {b : Nat} (h : k ∉ L1.map (·.1)) (j : Int) : look (L1 ++ (k, v, b) :: L2) j = if j = k then some v else look (L1 ++ (k, u, b) :: L2) j := by
  induction L1 with
  | nil =>
    simp only [List.nil_append, look]
    by_cases e : k = j
    · subst e; simp
    · rw [if_neg e, if_neg (fun x => e x.symm), if_neg e]
  | cons e r ih =>
    simp only [List.map_cons, List.mem_cons, not_or] at h
    simp only [List.cons_append, look]
    by_cases e1 : e.1 = j
    · have : ¬ j = k := fun x => h.1 (by rw [e1, x])
      simp [e1, this]
    · rw [if_neg e1, if_neg e1]; exact ih h.2
theorem look_push {L : List Ent} {k : Int} {v : Value} {b : Nat} (h : k ∉ L.map (·.1)) (j : Int) : look (L ++ [(k, v, b)]) j = if j = k then some v else look L j := by
  induction L with
  | nil =>
    simp only [List.nil_append, look]
    by_cases e : k = j
    · subst e; simp
    · rw [if_neg e, if_neg (fun x => e x.symm)]
  | cons e r ih =>
    simp only [List.map_cons, List.mem_cons, not_or] at h
    simp only [List.cons_append, look]
    by_cases e1 : e.1 = j
    · have : ¬ j = k := fun x => h.1 (by rw [e1, x])
      simp [e1, this]
    · rw [if_neg e1, if_neg e1]; exact ih h.2
theorem split_at {L : List Ent} {k : Int} (h : k ∈ L.map (·.1)) : ∃ L1 u b L2, L = L1 ++ (k, u, b) :: L2 ∧ k ∉ L1.map (·.1) := by
  induction L with
  | nil => simp at h
  | cons e r ih =>
    by_cases he : e.1 = k
    · obtain ⟨k', u, b⟩ := e
      simp only at he
      subst he
      exact ⟨[], u, b, r, rfl, by simp⟩
    · have hr : k ∈ r.map (·.1) := by
        simp only [List.map_cons, List.mem_cons] at h
        rcases h with h | h
        · exact absurd h.symm he
        · exact h
      obtain ⟨L1, u, b, L2, rfl, hn⟩ := ih hr
      exact ⟨e :: L1, u, b, L2, rfl, by simp only [List.map_cons, List.mem_cons, not_or]; exact ⟨fun x => he x.symm, hn⟩⟩

theorem modify_mid (A B : List MapEntry) (x : MapEntry) (f : MapEntry → MapEntry) : ((A ++ x :: B).toArray).modify A.length f = (A ++ f x :: B).toArray := by
  apply Array.ext'
  rw [Array.toList_modify]
  simp only
  induction A with
  | nil => simp
  | cons a r ih => simp [ih]

section
variable {P : Program} {T K E : TypeId} {kd : IntKind}
theorem run_find (hK : P.underlying K = some (.int kd)) (k : Int) (L : List Ent) (w : World) : (Instr.findKey K (.int .i64 k) (ents L).toList).run P w = .ok (findP L k 0) w := by
  simp [Instr.findKey, run_underlying hK, ents, findNow_eq]
theorem run_check (hK : P.underlying K = some (.int kd)) (e : Bool) (k : Int) (w : World) : (Instr.checkKey e 10000 K (.int .i64 k)).run P w = .ok () w := by
  have h : ∀ n : Nat, (Instr.checkKey e (n + 1) K (.int .i64 k)).run P w = .ok () w := fun n => by
    rw [Instr.checkKey]
    simp [run_underlying hK]
  exact h 9999
theorem same_bits (k : Int) (n : Nat) : Instr.sameBits n (.int .i64 k) (.int .i64 k) = true := by
  cases n <;> simp [Instr.sameBits]
theorem run_stays (k : Int) (w : World) : (Instr.keyThatStays (.int .i64 k) (.int .i64 k)).run P w = .ok (.int .i64 k) w := by
  simp [Instr.keyThatStays, same_bits]
theorem run_getObj {w : World} {g : Nat} {es : Array MapEntry} {c : Nat} (h : w.heap[g]? = some (.map es c)) : (getObj g).run P w = .ok (.map es c) w := by
  simp [getObj, Sem.run, h]
theorem run_setObj {w : World} {g : Nat} {es : Array MapEntry} {c : Nat} (h : w.heap[g]? = some (.map es c)) (es' : Array MapEntry) (c' : Nat) : (setObj g (.map es' c')).run P w = .ok () (setBlock w g (.map es' c')) := by
  simp [setObj, Sem.run, h, setBlock]

theorem run_update_hit (hT : P.underlying T = some (.map K E)) (hK : P.underlying K = some (.int kd)) {w : World} {g clk b : Nat} {L1 L2 : List Ent} {k : Int} {u v : Value} (hb : w.heap[g]? = some (.map (ents (L1 ++ (k, u, b) :: L2)) clk)) (hn : k ∉ L1.map (·.1)) :
    (Instr.mapUpdate T (.map (some g)) (.int .i64 k) v).run P w = .ok () (setBlock w g (.map (ents (L1 ++ (k, v, b) :: L2)) clk)) := by
  have e : (ents (L1 ++ (k, u, b) :: L2))[L1.length]? = some (mkE (k, u, b)) := by simp [ents]
  have m := modify_mid (L1.map mkE) (L2.map mkE) (mkE (k, u, b)) (fun e => { e with key := .int .i64 k, val := v })
  simp only [List.length_map] at m
  simp only [Instr.mapUpdate, Sem.run_bind, run_underlying hT, Result.andThen_ok, run_getObj hb, run_check hK, run_find hK, findP_mid hn, Nat.zero_add, e, Option.map_some, Option.getD_some, mkE, run_stays]
  rw [show (ents (L1 ++ (k, u, b) :: L2)) = (L1.map mkE ++ mkE (k, u, b) :: L2.map mkE).toArray from by simp [ents], m, run_setObj hb]
  simp [ents, mkE]
theorem run_update_new (hT : P.underlying T = some (.map K E)) (hK : P.underlying K = some (.int kd)) {w : World} {g clk : Nat} {L : List Ent} {k : Int} {v : Value} (hb : w.heap[g]? = some (.map (ents L) clk)) (hn : k ∉ L.map (·.1)) :
    (Instr.mapUpdate T (.map (some g)) (.int .i64 k) v).run P w = .ok () (setBlock w g (.map (ents (L ++ [(k, v, clk)])) (clk + 1))) := by
  simp only [Instr.mapUpdate, Sem.run_bind, run_underlying hT, Result.andThen_ok, run_getObj hb, run_check hK, run_find hK, findP_none hn]
  rw [run_setObj hb]
  simp [ents, mkE]
theorem run_entry_hit (hT : P.underlying T = some (.map K E)) (hK : P.underlying K = some (.int kd)) {w : World} {g clk b : Nat} {L1 L2 : List Ent} {k : Int} {u : Value} (hb : w.heap[g]? = some (.map (ents (L1 ++ (k, u, b) :: L2)) clk)) (hn : k ∉ L1.map (·.1)) :
    (Instr.mapEntry T (.map (some g)) (.int .i64 k)).run P w = .ok (.tuple #[u, .int .i64 b]) (setBlock w g (.map (ents (L1 ++ (k, u, b) :: L2)) clk)) := by
  have e : (ents (L1 ++ (k, u, b) :: L2))[L1.length]? = some (mkE (k, u, b)) := by simp [ents]
  have m := modify_mid (L1.map mkE) (L2.map mkE) (mkE (k, u, b)) (fun e => { e with key := .int .i64 k })
  simp only [List.length_map] at m
  simp only [Instr.mapEntry, Sem.run_bind, run_underlying hT, Result.andThen_ok, run_getObj hb, run_check hK, run_find hK, findP_mid hn, Nat.zero_add, e, Option.map_some, Option.getD_some, mkE, run_stays]
  rw [show (ents (L1 ++ (k, u, b) :: L2)) = (L1.map mkE ++ mkE (k, u, b) :: L2.map mkE).toArray from by simp [ents], m, run_setObj hb]
  simp [mkE, goInt]
theorem run_entry_new (hT : P.underlying T = some (.map K E)) (hK : P.underlying K = some (.int kd)) {w : World} {g clk : Nat} {L : List Ent} {k : Int} {z : Value} (hz : (zeroValue E).run P w = .ok z w) (hb : w.heap[g]? = some (.map (ents L) clk)) (hn : k ∉ L.map (·.1)) :
    (Instr.mapEntry T (.map (some g)) (.int .i64 k)).run P w = .ok (.tuple #[z, .int .i64 clk]) (setBlock w g (.map (ents (L ++ [(k, z, clk)])) (clk + 1))) := by
  simp only [Instr.mapEntry, Sem.run_bind, run_underlying hT, Result.andThen_ok, run_getObj hb, run_check hK, run_find hK, findP_none hn, hz]
  rw [run_setObj hb]
  simp [ents, mkE, goInt]
theorem run_entryStore {w : World} {g clk b : Nat} {L1 L2 : List Ent} {k : Int} {u v : Value} (hb : w.heap[g]? = some (.map (ents (L1 ++ (k, u, b) :: L2)) clk)) (hn : b ∉ L1.map (·.2.2)) :
    (Instr.entryStore T (.map (some g)) (.int .i64 b) v).run P w = .ok () (setBlock w g (.map (ents (L1 ++ (k, v, b) :: L2)) clk)) := by
  have m := modify_mid (L1.map mkE) (L2.map mkE) (mkE (k, u, b)) (fun e => { e with val := v })
  simp only [List.length_map] at m
  have hf : (ents (L1 ++ (k, u, b) :: L2)).findIdx? (fun e => (e.born : Int) == (b : Int)) = some L1.length := by
    clear hb m
    rw [ents, List.findIdx?_toArray, List.map_append, List.map_cons]
    induction L1 with
    | nil => simp [List.findIdx?_cons, mkE]
    | cons e r ih =>
      simp only [List.map_cons, List.mem_cons, not_or] at hn
      have hne : ((e.2.2 : Int) == (b : Int)) = false := by rw [beq_eq_false_iff_ne]; intro x; exact hn.1 (by omega)
      rw [List.map_cons, List.cons_append, List.findIdx?_cons]
      simp only [mkE, hne, Bool.false_eq_true, if_false]
      have := ih hn.2
      simp only [mkE] at this
      rw [this]
      simp
  simp only [Instr.entryStore, Sem.run_bind, Result.andThen_ok, run_getObj hb, asInt, asIntOf, Sem.run_pure, hf]
  rw [show (ents (L1 ++ (k, u, b) :: L2)) = (L1.map mkE ++ mkE (k, u, b) :: L2.map mkE).toArray from by simp [ents], m, run_setObj hb]
  simp [ents, mkE]
theorem run_lookup_hit (hT : P.underlying T = some (.map K E)) (hK : P.underlying K = some (.int kd)) {w : World} {g clk b : Nat} {L1 L2 : List Ent} {k : Int} {u : Value} (hb : w.heap[g]? = some (.map (ents (L1 ++ (k, u, b) :: L2)) clk)) (hn : k ∉ L1.map (·.1)) :
    (Instr.lookup T (.map (some g)) (.int .i64 k) true).run P w = .ok (.tuple #[u, .bool true]) w := by
  simp [Instr.lookup, run_underlying hT, run_getObj hb, run_check hK, run_find hK, findP_mid hn]
theorem run_lookup_none (hT : P.underlying T = some (.map K E)) (hK : P.underlying K = some (.int kd)) {w : World} {g clk : Nat} {L : List Ent} {k : Int} {z : Value} (hz : (zeroValue E).run P w = .ok z w) (hb : w.heap[g]? = some (.map (ents L) clk)) (hn : k ∉ L.map (·.1)) :
    (Instr.lookup T (.map (some g)) (.int .i64 k) true).run P w = .ok (.tuple #[z, .bool false]) w := by
  simp [Instr.lookup, run_underlying hT, run_getObj hb, run_check hK, run_find hK, findP_none hn, hz]
end

theorem TidyE.nil (clk : Nat) : TidyE [] clk := ⟨by simp, by simp, by simp⟩
theorem TidyE.set {L1 L2 : List Ent} {k : Int} {u v : Value} {b clk : Nat} (h : TidyE (L1 ++ (k, u, b) :: L2) clk) : TidyE (L1 ++ (k, v, b) :: L2) clk := by
  refine ⟨by simpa using h.keys, by simpa using h.borns, fun e he => ?_⟩
  rcases List.mem_append.1 he with h1 | h1
  · exact h.old e (List.mem_append.2 (.inl h1))
  · rcases List.mem_cons.1 h1 with rfl | h1
    · exact h.old (k, u, b) (by simp)
    · exact h.old e (by simp [h1])
theorem TidyE.push {L : List Ent} {clk : Nat} (h : TidyE L clk) {k : Int} {v : Value} (hn : k ∉ L.map (·.1)) : TidyE (L ++ [(k, v, clk)]) (clk + 1) := by
  refine ⟨?_, ?_, fun e he => ?_⟩
  · rw [List.map_append, List.nodup_append]
    refine ⟨h.keys, by simp, fun a ha b hb => ?_⟩
    simp at hb
    subst hb
    exact fun e => hn (e ▸ ha)
  · rw [List.map_append, List.nodup_append]
    refine ⟨h.borns, by simp, fun a ha b hb => ?_⟩
    simp at hb
    subst hb
    obtain ⟨x, hx, rfl⟩ := List.mem_map.1 ha
    have := h.old x hx
    omega
  · rcases List.mem_append.1 he with h1 | h1
    · have := h.old e h1; omega
    · simp at h1; subst h1; simp

/-- Block g is a map that holds f. -/
def MapIs (w : World) (g : Nat) (f : Int → Option Value) : Prop := ∃ L clk, w.heap[g]? = some (.map (ents L) clk) ∧ TidyE L clk ∧ ∀ k, f k = look L k
def updM (f : Int → Option Value) (k : Int) (v : Value) : Int → Option Value := fun j => if j = k then some v else f j
theorem MapIs.new (w : World) : MapIs (w.alloc (.map #[] 0)) w.heap.size (fun _ => none) := ⟨[], 0, heap_alloc_new w _, TidyE.nil _, fun _ => rfl⟩
theorem MapIs.block {w w' : World} {g : Nat} {f : Int → Option Value} (h : MapIs w g f) (e : w'.heap[g]? = w.heap[g]?) : MapIs w' g f := by
  obtain ⟨L, clk, hb, ht, hf⟩ := h
  exact ⟨L, clk, e.trans hb, ht, hf⟩
theorem MapIs.lt {w : World} {g : Nat} {f : Int → Option Value} (h : MapIs w g f) : g < w.heap.size := by
  obtain ⟨L, clk, hb, _⟩ := h
  rcases Nat.lt_or_ge g w.heap.size with h | h
  · exact h
  · rw [Array.getElem?_eq_none h] at hb; cases hb

section
variable {P : Program} {T K E : TypeId} {kd : IntKind} {w : World} {g : Nat} {f : Int → Option Value}
theorem grown_set {es : Array MapEntry} {c : Nat} {o' : Obj} (hb : w.heap[g]? = some (.map es c)) : w.grownBy (setBlock w g o') (some g) :=
  ⟨rfl, rfl, rfl, by simp [setBlock], fun i _ hi => heap_setBlock_other hb _ (fun e => hi (by rw [e]))⟩
theorem MapIs.update (h : MapIs w g f) (hT : P.underlying T = some (.map K E)) (hK : P.underlying K = some (.int kd)) (k : Int) (v : Value) :
    ∃ w', (Instr.mapUpdate T (.map (some g)) (.int .i64 k) v).run P w = .ok () w' ∧ MapIs w' g (updM f k v) ∧ w.grownBy w' (some g) ∧ w'.heap.size = w.heap.size := by
  obtain ⟨L, clk, hb, ht, hf⟩ := h
  by_cases hm : k ∈ L.map (·.1)
  · obtain ⟨L1, u, b, L2, rfl, hn⟩ := split_at hm
    exact ⟨_, run_update_hit hT hK hb hn, ⟨_, _, heap_setBlock_same hb _, ht.set, fun j => by rw [look_set (u := u) hn, updM, hf]⟩, grown_set hb, by simp [setBlock]⟩
  · exact ⟨_, run_update_new hT hK hb hm, ⟨_, _, heap_setBlock_same hb _, ht.push hm, fun j => by rw [look_push hm, updM, hf]⟩, grown_set hb, by simp [setBlock]⟩
theorem MapIs.entry (h : MapIs w g f) (hT : P.underlying T = some (.map K E)) (hK : P.underlying K = some (.int kd)) {z : Value} (hz : ∀ w, (zeroValue E).run P w = .ok z w) (k : Int) (v : Value) :
    ∃ u b w1, (Instr.mapEntry T (.map (some g)) (.int .i64 k)).run P w = .ok (.tuple #[u, .int .i64 b]) w1 ∧ w.grownBy w1 (some g) ∧ w1.heap.size = w.heap.size ∧
      ∃ w2, (Instr.entryStore T (.map (some g)) (.int .i64 b) v).run P w1 = .ok () w2 ∧ MapIs w2 g (updM f k v) ∧ w.grownBy w2 (some g) ∧ w2.heap.size = w.heap.size := by
  obtain ⟨L, clk, hb, ht, hf⟩ := h
  by_cases hm : k ∈ L.map (·.1)
  · obtain ⟨L1, u, b, L2, rfl, hn⟩ := split_at hm
    have hnb : b ∉ L1.map (·.2.2) := by
      have := ht.borns
      rw [List.map_append, List.nodup_append] at this
      exact fun hx => this.2.2 b hx b (by simp) rfl
    refine ⟨u, b, _, run_entry_hit hT hK hb hn, grown_set hb, by simp [setBlock], _, run_entryStore (heap_setBlock_same hb _) hnb, ⟨_, _, heap_setBlock_same (heap_setBlock_same hb _) _, ht.set, fun j => by rw [look_set (u := u) hn, updM, hf]⟩, ?_, by simp [setBlock]⟩
    exact ⟨rfl, rfl, rfl, by simp [setBlock], fun i h1 hi => (heap_setBlock_other (heap_setBlock_same hb _) _ (fun e => hi (by rw [e]))).trans (heap_setBlock_other hb _ (fun e => hi (by rw [e])))⟩
  · have hnb : clk ∉ L.map (·.2.2) := fun hx => by
      obtain ⟨x, hx, e⟩ := List.mem_map.1 hx
      have := ht.old x hx
      omega
    refine ⟨z, clk, _, run_entry_new hT hK (hz _) hb hm, grown_set hb, by simp [setBlock], _, run_entryStore (L1 := L) (L2 := []) (heap_setBlock_same hb _) hnb, ⟨_, _, heap_setBlock_same (heap_setBlock_same hb _) _, ht.push hm, fun j => by rw [look_push hm, updM, hf]⟩, ?_, by simp [setBlock]⟩
    exact ⟨rfl, rfl, rfl, by simp [setBlock], fun i h1 hi => (heap_setBlock_other (heap_setBlock_same hb _) _ (fun e => hi (by rw [e]))).trans (heap_setBlock_other hb _ (fun e => hi (by rw [e])))⟩
theorem MapIs.lookup (h : MapIs w g f) (hT : P.underlying T = some (.map K E)) (hK : P.underlying K = some (.int kd)) {z : Value} (hz : (zeroValue E).run P w = .ok z w) (k : Int) :
    (Instr.lookup T (.map (some g)) (.int .i64 k) true).run P w = .ok (.tuple #[(f k).getD z, .bool (f k).isSome]) w := by
  obtain ⟨L, clk, hb, ht, hf⟩ := h
  by_cases hm : k ∈ L.map (·.1)
  · obtain ⟨L1, u, b, L2, rfl, hn⟩ := split_at hm
    rw [run_lookup_hit hT hK hb hn, hf, look_mid hn]
    rfl
  · rw [run_lookup_none hT hK hz hb hm, hf, look_none hm]
    rfl
end
end Go.Proofs.Ytkjbicenhncpeaa
