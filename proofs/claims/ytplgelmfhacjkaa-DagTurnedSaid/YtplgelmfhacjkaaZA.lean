/- Maps, rows, texts in order. -/
import Derived.WalkKit
import Derived.WalkSpells
import Derived.WalkLawsBesides
import Derived.Maps.RangeWalk
import Derived.Maps.OwnSet
import Derived.Deep.Draws
import Derived.Test.YtplgelmfhacjkaaWWords
import Derived.ProofKit
import Derived.Deep.Slices
import Derived.Deep.QuietTactic
import Derived.BigQuiet
import Derived.Lib.Hide
import Derived.Maps.AppendAt
import Derived.Shelf.SlIter.Nil
import Derived.Shelf.SortM.Plain
import Derived.Shelf.SortM.SortNone

namespace Go.Proofs.Ytplgelmfhacjkaa
open Go.RowKit Go.MapKept
open Go.ChangeMaps (setBlock)

/-! ### what a call may turn -/

/-- Of the blocks that are there only those of which S holds may have turned. -/
structure Fr (S : Nat → Prop) (w w' : World) : Prop where
  os : w'.os = w.os
  tape : w'.tape = w.tape
  output : w'.output = w.output
  size : w.heap.size ≤ w'.heap.size
  block : ∀ k, k < w.heap.size → ¬ S k → w'.heap[k]? = w.heap[k]?

theorem Fr.refl (S : Nat → Prop) (w : World) : Fr S w w := ⟨rfl, rfl, rfl, Nat.le_refl _, fun _ _ _ => rfl⟩

/-- A further step, that may turn T: each of T that was there at first is of S. -/
theorem Fr.trans {S T : Nat → Prop} {a b c : World} (h : Fr S a b) (k : Fr T b c) (hT : ∀ i, i < a.heap.size → T i → S i) : Fr S a c :=
  ⟨k.os.trans h.os, k.tape.trans h.tape, k.output.trans h.output, Nat.le_trans h.size k.size,
    fun i hi hs => (k.block i (Nat.lt_of_lt_of_le hi h.size) (fun ht => hs (hT i hi ht))).trans (h.block i hi hs)⟩

theorem Fr.mono {S T : Nat → Prop} {w w' : World} (h : Fr S w w') (hT : ∀ i, i < w.heap.size → S i → T i) : Fr T w w' :=
  ⟨h.os, h.tape, h.output, h.size, fun i hi ht => h.block i hi (fun hs => ht (hT i hi hs))⟩

theorem Fr.drew {S : Nat → Prop} {a w : World} (h : Fr S a w) : Fr S a w.drew := ⟨h.os, h.tape, h.output, h.size, h.block⟩

theorem Fr.drewN {S : Nat → Prop} {a w : World} (h : Fr S a w) (n : Nat) : Fr S a (w.drewN n) := ⟨h.os, h.tape, h.output, h.size, h.block⟩

theorem Fr.alloc {S : Nat → Prop} {a w : World} (h : Fr S a w) (o : Obj) : Fr S a (w.alloc o) :=
  h.trans (T := fun _ => False) ⟨rfl, rfl, rfl, by simp, fun k hk _ => Below.heap_alloc _ _ _ hk⟩ (fun _ _ h => h.elim)

theorem Fr.setCell {S : Nat → Prop} {a w : World} (h : Fr S a w) {p : Addr} (hp : a.heap.size ≤ p.block ∨ S p.block) (u : Value) : Fr S a (w.setCell p u) :=
  h.trans (T := fun k => k = p.block) ⟨rfl, rfl, rfl, by simp [World.setCell], fun k _ hn => Below.heap_setCell _ _ _ _ hn⟩
    (fun i hi e => by subst e; rcases hp with hp | hp; · omega
                      · exact hp)

theorem Fr.grown {S : Nat → Prop} {a w w' : World} {row : Option Nat} (h : Fr S a w) (hg : w.grownBy w' row) (hr : ∀ k, row = some k → a.heap.size ≤ k ∨ S k) : Fr S a w' :=
  h.trans (T := fun k => some k = row) ⟨hg.os, hg.tape, hg.output, hg.size, fun k hk hn => hg.block k hk hn⟩
    (fun i hi e => by rcases hr i e.symm with h | h; · omega
                      · exact h)

theorem Fr.of_grown {w w' : World} {row : Option Nat} (hg : w.grownBy w' row) : Fr (fun k => some k = row) w w' :=
  ⟨hg.os, hg.tape, hg.output, hg.size, fun k hk hn => hg.block k hk hn⟩

theorem Fr.below {S : Nat → Prop} {a w w' : World} (h : Fr S a w) {B : Nat} (hb : Below B w w') (hB : a.heap.size ≤ B) : Fr S a w' :=
  ⟨hb.os.trans h.os, hb.tape.trans h.tape, hb.output.trans h.output, Nat.le_trans h.size hb.size,
    fun i hi hs => (hb.block i (by omega)).trans (h.block i hi hs)⟩

theorem Fr.of_below {S : Nat → Prop} {w w' : World} (hb : Below w.heap.size w w') : Fr S w w' :=
  ⟨hb.os, hb.tape, hb.output, hb.size, fun i hi _ => hb.block i hi⟩

/-- What turns nothing below B is a Below. -/
theorem Fr.to_below {S : Nat → Prop} {w w' : World} (h : Fr S w w') {B : Nat} (hB : B ≤ w.heap.size) (hS : ∀ k, k < B → ¬ S k) : Below B w w' :=
  ⟨h.os, h.tape, h.output, h.size, fun k hk => h.block k (by omega) (hS k hk)⟩

theorem Fr.cell {S : Nat → Prop} {w w' : World} (h : Fr S w w') {p : Addr} (hp : p.block < w.heap.size) (hs : ¬ S p.block) : w'.cell? p = w.cell? p :=
  World.cell?_of_block (w := w) (h.block p.block hp hs)

/-- A row of the call's own stands where its block stands. -/
theorem ownsRow_move {w w' : World} {base : Nat} {e : TypeId} {size : Nat} {v : Value} {n : Nat} {xs : List Value} (h : w.ownsRow base e size v n xs)
    (hk : ∀ k, v.ownBlock = some k → w'.heap[k]? = w.heap[k]?) : w'.ownsRow base e size v n xs := by
  refine ⟨h.1, ?_⟩
  rcases h.2 with hn | ⟨g, cap, cur, rfl, hb, hgg, rest⟩
  · exact .inl hn
  · exact .inr ⟨g, cap, cur, rfl, hb, (hk g (by simp [Value.ownBlock])).trans hgg, rest⟩

theorem ownsRow_fr {S : Nat → Prop} {w w' : World} {base : Nat} {e : TypeId} {size : Nat} {v : Value} {n : Nat} {xs : List Value} (h : w.ownsRow base e size v n xs)
    (hf : Fr S w w') (hk : ∀ k, v.ownBlock = some k → ¬ S k) : w'.ownsRow base e size v n xs :=
  ownsRow_move h fun k hk' => hf.block k (h.lt k hk').2 (hk k hk')

/-! ### maps keyed by strings -/

def mget (m : List (ByteArray × Value)) (k : ByteArray) : Option Value := (m.find? (fun p => decide (p.1 = k))).map (·.2)
def mhas (m : List (ByteArray × Value)) (k : ByteArray) : Bool := m.any (fun p => decide (p.1 = k))
def mput (m : List (ByteArray × Value)) (k : ByteArray) (v : Value) : List (ByteArray × Value) :=
  if mhas m k then m.map (fun p => if p.1 = k then (k, v) else p) else m ++ [(k, v)]
def mdel (m : List (ByteArray × Value)) (k : ByteArray) : List (ByteArray × Value) := m.filter (fun p => decide (p.1 ≠ k))

def entv (e : MapEntry) : Value × Value := (e.key, e.val)
def strv (p : ByteArray × Value) : Value × Value := (.string p.1, p.2)

/-- Block b of w is a map keyed by strings; its entries, in the order of their birth, are m. -/
def MapL (w : World) (b : Nat) (m : List (ByteArray × Value)) : Prop :=
  ∃ es clock, w.heap[b]? = some (.map es clock) ∧ Stamped es clock ∧ es.toList.map entv = m.map strv

theorem MapL.lt {w : World} {b : Nat} {m : List (ByteArray × Value)} (h : MapL w b m) : b < w.heap.size := by
  obtain ⟨es, clock, hb, _⟩ := h
  exact (Array.getElem?_eq_some_iff.1 hb).1

theorem MapL.move {w w' : World} {b : Nat} {m : List (ByteArray × Value)} (h : MapL w b m) (he : w'.heap[b]? = w.heap[b]?) : MapL w' b m := by
  obtain ⟨es, clock, hb, hr⟩ := h
  exact ⟨es, clock, he.trans hb, hr⟩

theorem MapL.fr {S : Nat → Prop} {w w' : World} {b : Nat} {m : List (ByteArray × Value)} (h : MapL w b m) (hf : Fr S w w') (hs : ¬ S b) : MapL w' b m :=
  h.move (hf.block b h.lt hs)

theorem MapL.alloc {w : World} {b : Nat} {m : List (ByteArray × Value)} (h : MapL w b m) (o : Obj) : MapL (w.alloc o) b m :=
  h.move (Below.heap_alloc _ _ _ h.lt)

theorem MapL.made (w : World) : MapL (w.alloc (.map #[] 0)) w.heap.size [] :=
  ⟨#[], 0, (MapKept.heap_alloc w _).1, stamped_empty 0, rfl⟩

theorem MapL.not_cells {w : World} {b : Nat} {m : List (ByteArray × Value)} (h : MapL w b m) {c : Array Value} {t : TypeId} {f : Nat × Nat} (hc : w.heap[b]? = some (.cells c t f)) : False := by
  obtain ⟨es, clock, hb, _⟩ := h
  rw [hb] at hc
  cases hc

theorem entv_keys {es : Array MapEntry} {m : List (ByteArray × Value)} (h : es.toList.map entv = m.map strv) : es.toList.map (·.key) = m.map (fun p => Value.string p.1) := by
  have := congrArg (List.map Prod.fst) h
  simpa [List.map_map, Function.comp_def, entv, strv] using this

theorem MapL.nodup {w : World} {b : Nat} {m : List (ByteArray × Value)} (h : MapL w b m) : (m.map (·.1)).Nodup := by
  obtain ⟨es, clock, hb, hs, he⟩ := h
  have h3 := hs.2.2
  rw [entv_keys he] at h3
  have e : m.map (fun p => Value.string p.1) = (m.map (·.1)).map Value.string := by simp [List.map_map, Function.comp_def]
  rw [e] at h3
  exact List.Pairwise.of_map Value.string (fun a b hab e => hab (by rw [e])) h3

theorem entv_isKey {es : Array MapEntry} {m : List (ByteArray × Value)} (h : es.toList.map entv = m.map strv) : ∀ x ∈ es.toList, IsKey .string x.key := by
  intro x hx
  have : x.key ∈ es.toList.map (·.key) := List.mem_map.2 ⟨x, hx, rfl⟩
  rw [entv_keys h] at this
  obtain ⟨p, _, e⟩ := List.mem_map.1 this
  rw [← e]
  trivial

theorem entv_at {es : Array MapEntry} {m : List (ByteArray × Value)} (h : es.toList.map entv = m.map strv) {j : Nat} {e : MapEntry} (hj : es.toList[j]? = some e) : ∃ p, m[j]? = some p ∧ e.key = .string p.1 ∧ e.val = p.2 := by
  have := congrArg (·[j]?) h
  simp only [List.getElem?_map, hj, Option.map_some] at this
  cases hm : m[j]? with
  | none => rw [hm] at this; cases this
  | some p =>
    rw [hm] at this
    simp only [Option.map_some, Option.some.injEq, entv, strv, Prod.mk.injEq] at this
    exact ⟨p, rfl, this.1, this.2⟩

theorem mhas_iff {m : List (ByteArray × Value)} {k : ByteArray} : mhas m k = true ↔ k ∈ m.map (·.1) := by
  simp [mhas, List.any_eq_true]

theorem mget_some {m : List (ByteArray × Value)} (hn : (m.map (·.1)).Nodup) {j : Nat} {p : ByteArray × Value} (hj : m[j]? = some p) : mget m p.1 = some p.2 := by
  induction m generalizing j with
  | nil => simp at hj
  | cons q m ih =>
    simp only [List.map_cons, List.nodup_cons] at hn
    cases j with
    | zero =>
      simp only [List.getElem?_cons_zero, Option.some.injEq] at hj
      subst hj
      simp [mget]
    | succ j =>
      simp only [List.getElem?_cons_succ] at hj
      have hmem : p.1 ∈ m.map (·.1) := List.mem_map.2 ⟨p, List.mem_of_getElem? hj, rfl⟩
      have hne : q.1 ≠ p.1 := fun e => hn.1 (e ▸ hmem)
      have := ih hn.2 hj
      unfold mget at this ⊢
      rw [List.find?_cons, show decide (q.1 = p.1) = false by simpa using hne]
      exact this

theorem mget_none {m : List (ByteArray × Value)} {k : ByteArray} : mget m k = none ↔ k ∉ m.map (·.1) := by
  simp only [mget, Option.map_eq_none_iff, List.find?_eq_none, decide_eq_true_eq, List.mem_map, not_exists, not_and]

/-- What a look-up finds. -/
theorem MapL.find {P : Program} {w : World} {m : List (ByteArray × Value)} {K : TypeId} (hK : P.underlying K = some .string) (k : ByteArray) {es : Array MapEntry} {clock : Nat} (_hs : Stamped es clock) (he : es.toList.map entv = m.map strv) :
    ((Instr.findKey K (.string k) es.toList).run P w = .ok none w ∧ k ∉ m.map (·.1)) ∨
    ∃ (j : Nat) (e : MapEntry) (p : ByteArray × Value), (Instr.findKey K (.string k) es.toList).run P w = .ok (some (j, e.val)) w ∧ es.toList[j]? = some e ∧ m[j]? = some p ∧ p.1 = k ∧ e.val = p.2 := by
  rcases findNow_spec (d := .string) (k := .string k) trivial es.toList 0 (entv_isKey he) with ⟨h1, h2⟩ | ⟨j, e, h1, h2, h3⟩
  · refine .inl ⟨run_findKey hK h1, ?_⟩
    intro hm
    have : Value.string k ∈ es.toList.map (·.key) := by
      rw [entv_keys he]
      obtain ⟨p, hp, e⟩ := List.mem_map.1 hm
      exact List.mem_map.2 ⟨p, hp, by rw [e]⟩
    obtain ⟨x, hx, e⟩ := List.mem_map.1 this
    exact h2 x hx e
  · obtain ⟨p, hp, e1, e2⟩ := entv_at he h2
    refine .inr ⟨j, e, p, by simpa using run_findKey hK h1, h2, hp, ?_, e2⟩
    rw [h3] at e1
    cases e1
    rfl

theorem MapL.lookup {P : Program} {w : World} {b : Nat} {m : List (ByteArray × Value)} (h : MapL w b m) {t K E : TypeId} (ht : P.underlying t = some (.map K E)) (hK : P.underlying K = some .string) {z : Value} (hz : (zeroValue E).run P w = .ok z w) (k : ByteArray) (ok : Bool) :
    (Instr.lookup t (.map (some b)) (.string k) ok).run P w = .ok (if ok then .tuple #[(mget m k).getD z, .bool (mhas m k)] else (mget m k).getD z) w := by
  have hn := h.nodup
  obtain ⟨es, clock, hb, hs, he⟩ := h
  simp only [Instr.lookup, Sem.run_bind, run_underlying ht, Result.andThen, MapKept.run_getObj_map hb, Sem.run_pure]
  have hck : (Instr.checkKey es.isEmpty 10000 K (.string k)).run P w = .ok () w := run_checkKey hK (by trivial) _ _
  simp only [hck]
  rcases MapL.find (P := P) (w := w) (m := m) hK k hs he with ⟨h1, h2⟩ | ⟨j, e, p, h1, h2, h3, h4, h5⟩
  · have e1 : mget m k = none := mget_none.2 h2
    have e2 : mhas m k = false := by
      cases hh : mhas m k
      · rfl
      · exact absurd (mhas_iff.1 hh) h2
    simp only [h1, hz, e1, e2, Option.getD_none, Sem.run_bind, Sem.run_pure, Result.andThen]
  · have e1 : mget m k = some e.val := by rw [h5, ← h4]; exact mget_some hn h3
    have e2 : mhas m k = true := mhas_iff.2 (h4 ▸ List.mem_map.2 ⟨p, List.mem_of_getElem? h3, rfl⟩)
    simp only [h1, e1, e2, Option.getD_some]
    cases ok <;> rfl

theorem lookup_nil {P : Program} {w : World} {t K E : TypeId} (ht : P.underlying t = some (.map K E)) (hK : P.underlying K = some .string) {z : Value} (hz : (zeroValue E).run P w = .ok z w) (k : ByteArray) (ok : Bool) :
    (Instr.lookup t (.map none) (.string k) ok).run P w = .ok (if ok then .tuple #[z, .bool false] else z) w := by
  have hck : (Instr.checkKey true 10000 K (.string k)).run P w = .ok () w := run_checkKey hK (by trivial) _ _
  have hfk : (Instr.findKey K (.string k) []).run P w = .ok none w := run_findKey hK (by simp [Instr.findNow])
  simp only [Instr.lookup, Sem.run_bind, run_underlying ht, Result.andThen, Sem.run_pure, Array.isEmpty_empty, hck, hfk, hz]

theorem MapL.len {P : Program} {w : World} {b : Nat} {m : List (ByteArray × Value)} (h : MapL w b m) {t K E : TypeId} (ht : P.underlying t = some (.map K E)) (ty : TypeId) :
    (Builtin.len_ #[t] ty #[.map (some b)]).run P w = .ok (.int .i64 m.length) w := by
  obtain ⟨es, clock, hb, hs, he⟩ := h
  have hl : es.size = m.length := by have := congrArg List.length he; simpa using this
  simp [Builtin.len_, run_underlying ht, Result.andThen, MapKept.run_getObj_map hb, hl, goInt]

theorem map_modify_strv {m : List (ByteArray × Value)} (hn : (m.map (·.1)).Nodup) {j : Nat} {p : ByteArray × Value} (hj : m[j]? = some p) (v : Value) :
    m.map (fun q => if q.1 = p.1 then (p.1, v) else q) = m.modify j (fun q => (q.1, v)) := by
  induction m generalizing j with
  | nil => simp at hj
  | cons q m ih =>
    simp only [List.map_cons, List.nodup_cons] at hn
    cases j with
    | zero =>
      simp only [List.getElem?_cons_zero, Option.some.injEq] at hj
      subst hj
      simp only [List.map_cons, if_true, List.modify_zero_cons, List.cons.injEq, true_and]
      conv => rhs; rw [← List.map_id m]
      refine List.map_congr_left fun x hx => ?_
      rw [if_neg (fun (e : x.1 = q.1) => hn.1 (e ▸ List.mem_map.2 ⟨x, hx, rfl⟩))]
      rfl
    | succ j =>
      simp only [List.getElem?_cons_succ] at hj
      have hmem : p.1 ∈ m.map (·.1) := List.mem_map.2 ⟨p, List.mem_of_getElem? hj, rfl⟩
      have hne : q.1 ≠ p.1 := fun e => hn.1 (e ▸ hmem)
      simp only [List.map_cons, hne, if_false, List.modify_succ_cons, List.cons.injEq, true_and]
      exact ih hn.2 hj

/-- m[k] = v -/
theorem MapL.update {P : Program} {w : World} {b : Nat} {m : List (ByteArray × Value)} (h : MapL w b m) {t K E : TypeId} (ht : P.underlying t = some (.map K E)) (hK : P.underlying K = some .string) (k : ByteArray) (v : Value) :
    ∃ w', (Instr.mapUpdate t (.map (some b)) (.string k) v).run P w = .ok () w' ∧ MapL w' b (mput m k v) ∧ w.grownBy w' (some b) ∧ w'.heap.size = w.heap.size := by
  have hn := h.nodup
  obtain ⟨es, clock, hb, hs, he⟩ := h
  have hck : (Instr.checkKey false 10000 K (.string k)).run P w = .ok () w := run_checkKey hK (by trivial) _ _
  have hgr : ∀ o : Obj, w.grownBy (setBlock w b o) (some b) := fun o => ⟨rfl, rfl, rfl, by simp [setBlock], fun i _ hi => ChangeMaps.heap_setBlock_other hb _ (fun e => hi (by rw [e]))⟩
  have hsz : ∀ o : Obj, (setBlock w b o).heap.size = w.heap.size := fun o => by simp [setBlock]
  rcases MapL.find (P := P) (w := w) (m := m) hK k hs he with ⟨h1, h2⟩ | ⟨j, e, p, h1, h2, h3, h4, h5⟩
  · refine ⟨setBlock w b (.map (es.push { key := .string k, val := v, born := clock }) (clock + 1)), ?_, ⟨_, _, ChangeMaps.heap_setBlock_same hb _, ?_, ?_⟩, hgr _, hsz _⟩
    · simp only [Instr.mapUpdate, Sem.run_bind, run_underlying ht, Result.andThen, MapKept.run_getObj_map hb, hck, h1, run_setObj_map _ hb]
      rfl
    · refine stamped_push hs fun x hx e => h2 ?_
      have : x.key ∈ es.toList.map (·.key) := List.mem_map.2 ⟨x, hx, rfl⟩
      rw [entv_keys he] at this
      obtain ⟨q, hq, e'⟩ := List.mem_map.1 this
      rw [e] at e'
      cases e'
      exact List.mem_map.2 ⟨q, hq, rfl⟩
    · have e2 : mhas m k = false := by
        cases hh : mhas m k
        · rfl
        · exact absurd (mhas_iff.1 hh) h2
      simp [mput, e2, he, entv, strv]
  · have hj : es[j]? = some e := by simpa using h2
    have hkey : e.key = .string k := by
      obtain ⟨p', hp', e1, _⟩ := entv_at he h2
      rw [h3] at hp'
      cases hp'
      rw [e1, h4]
    refine ⟨setBlock w b (.map (es.modify j fun e => { e with key := .string k, val := v }) clock), ?_, ⟨_, _, ChangeMaps.heap_setBlock_same hb _, ?_, ?_⟩, hgr _, hsz _⟩
    · have hst : (Instr.keyThatStays (.string k) (.string k)).run P w = .ok (.string k) w := run_keyThatStays (d := .string) trivial
      simp only [Instr.mapUpdate, Sem.run_bind, run_underlying ht, Result.andThen, MapKept.run_getObj_map hb, hck, h1, hj, Option.map_some, Option.getD_some, hkey, hst, run_setObj_map _ hb]
      rfl
    · refine stamped_modify hs j _ (fun _ _ => rfl) (fun x _ hx => ?_)
      rw [hj] at hx
      cases hx
      exact hkey.symm
    · have e2 : mhas m k = true := mhas_iff.2 (h4 ▸ List.mem_map.2 ⟨p, List.mem_of_getElem? h3, rfl⟩)
      subst h4
      simp only [mput, e2, if_true]
      rw [map_modify_strv hn h3]
      apply List.ext_getElem?
      intro i
      have hi := congrArg (·[i]?) he
      simp only [List.getElem?_map, Array.getElem?_toList] at hi
      simp only [List.getElem?_map, Array.getElem?_toList, Array.getElem?_modify, List.getElem?_modify]
      by_cases hij : j = i
      · subst hij
        simp [hj, h3, entv, strv]
      · simp only [hij, if_false]
        simpa using hi

theorem mdel_eq_eraseIdx {m : List (ByteArray × Value)} (hn : (m.map (·.1)).Nodup) {j : Nat} {p : ByteArray × Value} (hj : m[j]? = some p) : mdel m p.1 = m.eraseIdx j := by
  induction m generalizing j with
  | nil => simp at hj
  | cons q m ih =>
    simp only [List.map_cons, List.nodup_cons] at hn
    cases j with
    | zero =>
      simp only [List.getElem?_cons_zero, Option.some.injEq] at hj
      subst hj
      simp only [mdel, List.filter_cons, ne_eq, not_true_eq_false, decide_false, Bool.false_eq_true, if_false, List.eraseIdx_zero, List.tail_cons]
      exact List.filter_eq_self.2 fun x hx => by
        have : x.1 ≠ q.1 := fun (e : x.1 = q.1) => hn.1 (e ▸ List.mem_map.2 ⟨x, hx, rfl⟩)
        simpa using this
    | succ j =>
      simp only [List.getElem?_cons_succ] at hj
      have hmem : p.1 ∈ m.map (·.1) := List.mem_map.2 ⟨p, List.mem_of_getElem? hj, rfl⟩
      have hne : q.1 ≠ p.1 := fun e => hn.1 (e ▸ hmem)
      have := ih hn.2 hj
      simp only [mdel] at this ⊢
      rw [List.filter_cons, if_pos (by simpa using hne), List.eraseIdx_cons_succ, this]

theorem mdel_none {m : List (ByteArray × Value)} {k : ByteArray} (h : k ∉ m.map (·.1)) : mdel m k = m :=
  List.filter_eq_self.2 fun x hx => by
    have : x.1 ≠ k := fun e => h (e ▸ List.mem_map.2 ⟨x, hx, rfl⟩)
    simpa using this

theorem map_eraseIdx {α β : Type} (f : α → β) : ∀ (l : List α) (j : Nat), (l.eraseIdx j).map f = (l.map f).eraseIdx j
  | [], _ => by simp
  | _ :: l, 0 => by simp
  | x :: l, j + 1 => by simp [map_eraseIdx f l j]

/-- delete(m, k) -/
theorem MapL.delete {P : Program} {w : World} {b : Nat} {m : List (ByteArray × Value)} (h : MapL w b m) {t K E : TypeId} (ht : P.underlying t = some (.map K E)) (hK : P.underlying K = some .string) (k : ByteArray) (ty : TypeId) :
    ∃ w', (Builtin.delete_ #[t, K] ty #[.map (some b), .string k]).run P w = .ok (.tuple #[]) w' ∧ MapL w' b (mdel m k) ∧ w.grownBy w' (some b) ∧ w'.heap.size = w.heap.size := by
  have hn := h.nodup
  obtain ⟨es, clock, hb, hs, he⟩ := h
  have hck : ∀ e, (Instr.checkKey e 10000 K (.string k)).run P w = .ok () w := fun e => run_checkKey hK (by trivial) _ _
  have hgr : ∀ o : Obj, w.grownBy (setBlock w b o) (some b) := fun o => ⟨rfl, rfl, rfl, by simp [setBlock], fun i _ hi => ChangeMaps.heap_setBlock_other hb _ (fun e => hi (by rw [e]))⟩
  have hsz : ∀ o : Obj, (setBlock w b o).heap.size = w.heap.size := fun o => by simp [setBlock]
  rcases MapL.find (P := P) (w := w) (m := m) hK k hs he with ⟨h1, h2⟩ | ⟨j, e, p, h1, h2, h3, h4, h5⟩
  · refine ⟨setBlock w b (.map es clock), ?_, ⟨_, _, ChangeMaps.heap_setBlock_same hb _, hs, ?_⟩, hgr _, hsz _⟩
    · simp [Builtin.delete_, run_underlying ht, Result.andThen, MapKept.run_getObj_map hb, hck, h1, run_setObj_map _ hb, setBlock]
    · rw [mdel_none h2]; exact he
  · have hlt : j < es.size := by
      have := (List.getElem?_eq_some_iff.1 h2).1
      simpa using this
    refine ⟨setBlock w b (.map (es.eraseIdxIfInBounds j) clock), ?_, ⟨_, _, ChangeMaps.heap_setBlock_same hb _, stamped_erase hs j, ?_⟩, hgr _, hsz _⟩
    · simp [Builtin.delete_, run_underlying ht, Result.andThen, MapKept.run_getObj_map hb, hck, h1, run_setObj_map _ hb, setBlock]
    · subst h4
      rw [mdel_eq_eraseIdx hn h3]
      unfold Array.eraseIdxIfInBounds
      rw [dif_pos hlt, Array.toList_eraseIdx]
      rw [map_eraseIdx, map_eraseIdx, he]

theorem delete_nil {P : Program} {w : World} {t K E : TypeId} (ht : P.underlying t = some (.map K E)) (hK : P.underlying K = some .string) (k : ByteArray) (ty : TypeId) :
    (Builtin.delete_ #[t, K] ty #[.map none, .string k]).run P w = .ok (.tuple #[]) w := by
  have hck : ∀ e, (Instr.checkKey e 10000 K (.string k)).run P w = .ok () w := fun e => run_checkKey hK (by trivial) _ _
  simp [Builtin.delete_, run_underlying ht, Result.andThen, hck]

/-! ### lists of texts -/
def inB (l : List ByteArray) (s : ByteArray) : Bool := l.any (fun x => decide (x = s))
theorem inB_iff {l : List ByteArray} {s : ByteArray} : inB l s = true ↔ s ∈ l := by simp [inB]

end Go.Proofs.Ytplgelmfhacjkaa

namespace Go.Proofs.Ytplgelmfhacjkaa
open Go.RowKit Go.MapKept
open Go.ChangeMaps (setBlock)

/-- Block r of w is an iterator over the map b, whose entries are m; those that are still to come are left. -/
def RangeL (w : World) (r b : Nat) (m left : List (ByteArray × Value)) : Prop :=
  ∃ es clock since seen c0, w.heap[b]? = some (.map es clock) ∧ Stamped es clock ∧ es.toList.map entv = m.map strv ∧
    w.heap[r]? = some (.mapIter (some b) since seen c0) ∧ (∀ x ∈ es.toList, x.born < since) ∧ since ≤ c0 ∧ since ≤ clock ∧ (leftOf es seen).toList.map entv = left.map strv

theorem RangeL.map {w : World} {r b : Nat} {m left : List (ByteArray × Value)} (h : RangeL w r b m left) : MapL w b m := by
  obtain ⟨es, clock, since, seen, c0, hb, hs, he, _⟩ := h
  exact ⟨es, clock, hb, hs, he⟩

theorem RangeL.lt {w : World} {r b : Nat} {m left : List (ByteArray × Value)} (h : RangeL w r b m left) : r < w.heap.size := by
  obtain ⟨es, clock, since, seen, c0, hb, hs, he, hr, _⟩ := h
  exact (Array.getElem?_eq_some_iff.1 hr).1

theorem RangeL.move {w w' : World} {r b : Nat} {m left : List (ByteArray × Value)} (h : RangeL w r b m left) (hr' : w'.heap[r]? = w.heap[r]?) (hb' : w'.heap[b]? = w.heap[b]?) : RangeL w' r b m left := by
  obtain ⟨es, clock, since, seen, c0, hb, hs, he, hr, hx⟩ := h
  exact ⟨es, clock, since, seen, c0, hb'.trans hb, hs, he, hr'.trans hr, hx⟩

theorem RangeL.fr {S : Nat → Prop} {w w' : World} {r b : Nat} {m left : List (ByteArray × Value)} (h : RangeL w r b m left) (hf : Fr S w w') (h1 : ¬ S r) (h2 : ¬ S b) : RangeL w' r b m left :=
  h.move (hf.block r h.lt h1) (hf.block b h.map.lt h2)

theorem leftOf_empty (es : Array MapEntry) : leftOf es #[] = es := by
  simp [leftOf]

theorem leftOf_push (es : Array MapEntry) (seen : Array Nat) (b : Nat) : (leftOf es (seen.push b)).toList = (leftOf es seen).toList.filter (fun e => decide (e.born ≠ b)) := by
  simp only [leftOf, Array.toList_filter, List.filter_filter]
  congr 1
  funext e
  rw [Bool.eq_iff_iff]
  simp [and_comm]

theorem filter_born_eraseIdx : ∀ {l : List MapEntry} {i : Nat} {e : MapEntry}, (l.map (·.born)).Nodup → l[i]? = some e → l.filter (fun x => decide (x.born ≠ e.born)) = l.eraseIdx i
  | [], i, e, _, h => by simp at h
  | x :: l, 0, e, hn, h => by
    simp only [List.getElem?_cons_zero, Option.some.injEq] at h
    subst h
    simp only [List.map_cons, List.nodup_cons] at hn
    simp only [List.filter_cons, ne_eq, not_true_eq_false, decide_false, Bool.false_eq_true, if_false, List.eraseIdx_zero, List.tail_cons]
    exact List.filter_eq_self.2 fun y hy => by
      have : y.born ≠ x.born := fun (q : y.born = x.born) => hn.1 (q ▸ List.mem_map.2 ⟨y, hy, rfl⟩)
      simpa using this
  | x :: l, i + 1, e, hn, h => by
    simp only [List.getElem?_cons_succ] at h
    simp only [List.map_cons, List.nodup_cons] at hn
    have hmem : e.born ∈ l.map (·.born) := List.mem_map.2 ⟨e, List.mem_of_getElem? h, rfl⟩
    have hne : x.born ≠ e.born := fun q => hn.1 (q ▸ hmem)
    rw [List.filter_cons, if_pos (by simpa using hne), List.eraseIdx_cons_succ, filter_born_eraseIdx hn.2 h]

/-- range m -/
theorem MapL.range {P : Program} {w : World} {b : Nat} {m : List (ByteArray × Value)} (h : MapL w b m) {t K E : TypeId} (ht : P.underlying t = some (.map K E)) :
    ∃ w', (Instr.range t (.map (some b))).run P w = .ok (.pointer (some ⟨w.heap.size, 0, none⟩)) w' ∧ RangeL w' w.heap.size b m m ∧ Fr (fun _ => False) w w' ∧ w'.heap.size = w.heap.size + 1 := by
  have hlt := h.lt
  obtain ⟨es, clock, hb, hs, he⟩ := h
  exact ⟨_, run_range_map w t K E b es clock ht hb, ⟨es, clock, clock, #[], clock, ((MapKept.heap_alloc w _).2 b hlt).trans hb, hs, he, (MapKept.heap_alloc w _).1, hs.1, Nat.le_refl _, Nat.le_refl _, by rw [leftOf_empty]; exact he⟩,
    (Fr.refl _ w).alloc _, by simp⟩

theorem entv_at' {l : List MapEntry} {m : List (ByteArray × Value)} (h : l.map entv = m.map strv) {j : Nat} {e : MapEntry} (hj : l[j]? = some e) : ∃ p, m[j]? = some p ∧ e.key = .string p.1 ∧ e.val = p.2 :=
  entv_at (es := l.toArray) (by simpa using h) (by simpa using hj)

/-- The step. -/
theorem RangeL.next {P : Program} {w : World} {r b : Nat} {m left : List (ByteArray × Value)} (h : RangeL w r b m left) (ty : TypeId) :
    (left = [] ∧ (Instr.next (.pointer (some ⟨r, 0, none⟩)) false ty).run P w = .ok (.tuple #[.bool false]) w) ∨
    ∃ (i : Nat) (p : ByteArray × Value) (w' : World), left[i]? = some p ∧ (Instr.next (.pointer (some ⟨r, 0, none⟩)) false ty).run P w = .ok (.tuple #[.bool true, .string p.1, p.2]) w' ∧
      RangeL w' r b m (left.eraseIdx i) ∧ Fr (fun k => k = r) w w' ∧ w'.heap.size = w.heap.size ∧ (Instr.entry (.pointer (some ⟨r, 0, none⟩))).run P w' = .ok (.tuple #[.string p.1, p.2]) w' := by
  obtain ⟨es, clock, since, seen, c0, hb, hs, he, hr, hold, hsc, hsk, hl⟩ := h
  have hne : r ≠ b := fun q => by subst q; rw [hb] at hr; cases hr
  rcases run_next_at (P := P) w ty r b since c0 seen es clock hr hb hold hsc with ⟨h0, hrun⟩ | ⟨e, hem, w1, hal, hrun⟩
  · refine .inl ⟨?_, hrun⟩
    have := congrArg List.length hl
    simp only [List.length_map, Array.length_toList, h0] at this
    exact List.eq_nil_of_length_eq_zero this.symm
  · obtain ⟨i, hi⟩ := List.getElem?_of_mem hem
    obtain ⟨p, hp, e1, e2⟩ := entv_at' hl hi
    have hes : e ∈ es.toList := by
      simp only [leftOf, Array.toList_filter] at hem
      exact (List.mem_filter.1 hem).1
    have hr1 : w1.heap[r]? = some (.mapIter (some b) since seen c0) := by rcases hal with rfl | rfl <;> exact hr
    have hb1 : w1.heap[b]? = some (.map es clock) := by rcases hal with rfl | rfl <;> exact hb
    have hset := heap_set (o' := .mapIter (some b) since (seen.push e.born) clock) hr1
    have hb' : (setBlock w1 r (.mapIter (some b) since (seen.push e.born) clock)).heap[b]? = some (.map es clock) := (hset.2 b (fun e1 => hne e1.symm)).trans hb1
    have hnd : ((leftOf es seen).toList.map (·.born)).Nodup := by
      have hsub : ((leftOf es seen).toList).Sublist es.toList := by
        simp only [leftOf, Array.toList_filter]
        exact List.filter_sublist
      exact (hsub.map _).nodup hs.2.1
    have hrun' : (Instr.next (.pointer (some ⟨r, 0, none⟩)) false ty).run P w = .ok (.tuple #[.bool true, .string p.1, p.2]) (setBlock w1 r (.mapIter (some b) since (seen.push e.born) clock)) := by
      rw [hrun, e1, e2]
    have hen := run_entry_at (P := P) _ r b since seen es clock e hset.1 hb' hes hs.2.1
    rw [e1, e2] at hen
    refine .inr ⟨i, p, _, hp, hrun', ⟨es, clock, since, seen.push e.born, clock, hb', hs, he, hset.1, hold, hsk, hsk, ?_⟩, ?_, ?_, hen⟩
    · rw [leftOf_push, filter_born_eraseIdx hnd hi, map_eraseIdx, map_eraseIdx, hl]
    · rcases hal with rfl | rfl <;> exact ⟨rfl, rfl, rfl, by simp [setBlock], fun i _ hi => hset.2 i hi⟩
    · rcases hal with rfl | rfl <;> simp [setBlock]

theorem eraseIdx_perm {α : Type} : ∀ {l : List α} {i : Nat} {p : α}, l[i]? = some p → (p :: l.eraseIdx i).Perm l
  | [], i, p, h => by simp at h
  | x :: l, 0, p, h => by
    simp only [List.getElem?_cons_zero, Option.some.injEq] at h
    subst h
    simp
  | x :: l, i + 1, p, h => by
    simp only [List.getElem?_cons_succ] at h
    rw [List.eraseIdx_cons_succ]
    exact (List.Perm.swap x p _).trans ((eraseIdx_perm h).cons x)

/-! ### the laws at the operations, for the walk -/
section
variable {P : Program} (w : World) {ops : Array Oper} {rest : List Oper} {o : Oper} {a : Act} {Q : Exit → Act → World → Prop}

theorem wpList_lookup_L (hg : o.guard = none) (m x : Operand) (t : TypeId) (c : Bool) (hop : o.op = Op.lookup t m x c) (K E : TypeId) (ht : P.underlying t = some (.map K E)) (hK : P.underlying K = some .string) (z : Value) (hz : (zeroValue E).run P w = .ok z w)
    (b : Nat) (l : List (ByteArray × Value)) (hm : a.eval m = .map (some b)) (hl : MapL w b l) (k : ByteArray) (hx : a.eval x = .string k)
    (hk : wpList P ops Q rest (a.put o.dst (if c then .tuple #[(mget l k).getD z, .bool (mhas l k)] else (mget l k).getD z)) w) :
    wpList P ops Q (o :: rest) a w := by
  refine wpList_plain hg fun K' hK' => ?_
  unfold Oper.wp
  simp [execOp, hop, hm, hx, hl.lookup ht hK hz k c, Result.andThen]
  exact hK' _ _ hk

theorem wpList_mapUpdate_L (hg : o.guard = none) (m x v : Operand) (t : TypeId) (hop : o.op = Op.mapUpdate t m x v) (K E : TypeId) (ht : P.underlying t = some (.map K E)) (hK : P.underlying K = some .string)
    (b : Nat) (l : List (ByteArray × Value)) (hm : a.eval m = .map (some b)) (hl : MapL w b l) (k : ByteArray) (u : Value) (hx : a.eval x = .string k) (hv : a.eval v = u)
    (hk : ∀ w', MapL w' b (mput l k u) → w.grownBy w' (some b) → w'.heap.size = w.heap.size → wpList P ops Q rest (a.put o.dst undef) w') :
    wpList P ops Q (o :: rest) a w := by
  refine wpList_plain hg fun K' hK' => ?_
  obtain ⟨w', hrun, r1, r2, r3⟩ := hl.update ht hK k u
  unfold Oper.wp
  simp [execOp, hop, hm, hx, hv, hrun, Result.andThen]
  exact hK' _ _ (hk w' r1 r2 r3)

theorem wpList_delete_L (hg : o.guard = none) (m x : Operand) (t K : TypeId) (hop : o.op = Op.call { callee := Callee.builtin Builtin.delete, args := #[m, x], argTypes := #[t, K] }) (E : TypeId) (ht : P.underlying t = some (.map K E)) (hK : P.underlying K = some .string)
    (b : Nat) (l : List (ByteArray × Value)) (hm : a.eval m = .map (some b)) (hl : MapL w b l) (k : ByteArray) (hx : a.eval x = .string k)
    (hk : ∀ w', MapL w' b (mdel l k) → w.grownBy w' (some b) → w'.heap.size = w.heap.size → wpList P ops Q rest (a.put o.dst (.tuple #[])) w') :
    wpList P ops Q (o :: rest) a w := by
  refine wpList_plain hg fun K' hK' => ?_
  obtain ⟨w', hrun, r1, r2, r3⟩ := hl.delete ht hK k o.type
  unfold Oper.wp
  simp [execOp, hop, resolve, invoke, builtin, hm, hx, hrun, Result.andThen]
  exact hK' _ _ (hk w' r1 r2 r3)

theorem wpList_len_L (hg : o.guard = none) (m : Operand) (t : TypeId) (hop : o.op = Op.call { callee := Callee.builtin Builtin.len, args := #[m], argTypes := #[t] }) (K E : TypeId) (ht : P.underlying t = some (.map K E))
    (b : Nat) (l : List (ByteArray × Value)) (hm : a.eval m = .map (some b)) (hl : MapL w b l)
    (hk : wpList P ops Q rest (a.put o.dst (.int .i64 l.length)) w) :
    wpList P ops Q (o :: rest) a w := by
  refine wpList_plain hg fun K' hK' => ?_
  unfold Oper.wp
  simp [execOp, hop, resolve, invoke, builtin, hm, hl.len ht o.type, Result.andThen]
  exact hK' _ _ hk

theorem wpList_range_L (hg : o.guard = none) (m : Operand) (t : TypeId) (hop : o.op = Op.range t m) (K E : TypeId) (ht : P.underlying t = some (.map K E))
    (b : Nat) (l : List (ByteArray × Value)) (hm : a.eval m = .map (some b)) (hl : MapL w b l)
    (hk : ∀ w', RangeL w' w.heap.size b l l → Fr (fun _ => False) w w' → w'.heap.size = w.heap.size + 1 → wpList P ops Q rest (a.put o.dst (.pointer (some ⟨w.heap.size, 0, none⟩))) w') :
    wpList P ops Q (o :: rest) a w := by
  refine wpList_plain hg fun K' hK' => ?_
  obtain ⟨w', hrun, r1, r2, r3⟩ := hl.range ht
  unfold Oper.wp
  simp [execOp, hop, hm, hrun, Result.andThen]
  exact hK' _ _ (hk w' r1 r2 r3)

theorem wpList_next_L (hg : o.guard = none) (it : Operand) (hop : o.op = Op.next it false) (r b : Nat) (m left : List (ByteArray × Value)) (hit : a.eval it = .pointer (some ⟨r, 0, none⟩)) (h : RangeL w r b m left)
    (hDone : left = [] → wpList P ops Q rest (a.put o.dst (.tuple #[.bool false])) w)
    (hMore : ∀ (i : Nat) (k : ByteArray) (v : Value) (w' : World), left[i]? = some (k, v) → RangeL w' r b m (left.eraseIdx i) → Fr (fun k => k = r) w w' → w'.heap.size = w.heap.size →
      (Instr.entry (.pointer (some ⟨r, 0, none⟩))).run P w' = .ok (.tuple #[.string k, v]) w' → wpList P ops Q rest (a.put o.dst (.tuple #[.bool true, .string k, v])) w') :
    wpList P ops Q (o :: rest) a w := by
  refine wpList_plain hg fun K' hK' => ?_
  unfold Oper.wp
  rcases h.next (P := P) o.type with ⟨h0, hrun⟩ | ⟨i, p, w', hp, hrun, hrg, hfr, hsz, hen⟩
  · simp [execOp, hop, hit, hrun, Result.andThen]
    exact hK' _ _ (hDone h0)
  · simp [execOp, hop, hit, hrun, Result.andThen]
    exact hK' _ _ (hMore i p.1 p.2 w' hp hrg hfr hsz hen)

end

end Go.Proofs.Ytplgelmfhacjkaa

namespace Go.Proofs.Ytplgelmfhacjkaa
open Go.RowKit Go.Proofs.YtplgelmfhacjkaaW.PrintWords

section
variable {H : Type} {enc : TypeId × Value → H} {P : Program} {w : World} {spare : Nat → Bool} {held : Bool}

/-- Cells that read at type t stand as the kind d says; of what they hold G is so. -/
def Opens {H : Type} (enc : TypeId × Value → H) (P : Program) (w : World) (spare : Nat → Bool) (held : Bool) {α : Type} (t : TypeId) (d : Kd α) (G : α → Prop) : Prop :=
  ∀ fuel cs x, DataW.trod enc P w 0 spare held fuel t cs = some x → ∃ a, d.K w a cs ∧ G a

theorem Opens.str {t : TypeId} (ht : P.underlying t = some .string) : Opens enc P w spare held t Kd.string (fun s => s.size ≤ maxLen) := by
  intro fuel cs x h
  obtain ⟨s, rfl, _, hs⟩ := DataW.trod_string ht h
  exact ⟨s, rfl, hs⟩

theorem Opens.int {t : TypeId} {k : IntKind} (ht : P.underlying t = some (.int k)) : Opens enc P w spare held t (Kd.int k) (fun n => (Lit.int k n).wf = true) := by
  intro fuel cs x h
  obtain ⟨n, rfl, _, hs⟩ := DataW.trod_int ht h
  exact ⟨n, rfl, hs⟩

theorem cells?_at {base : Nat} {a : Addr} {n : Nat} {cs : List Value} (h : w.cells? base a n = some cs) : cs.length = n ∧ ∀ i u, cs[i]? = some u → w.cell? (a.add i) = some u := by
  unfold World.cells? at h
  split at h
  · have hl : cs.length = n := by simpa using mapM_some_length h
    refine ⟨hl, fun i u hi => ?_⟩
    have hin : i < n := by have := (List.getElem?_eq_some_iff.1 hi).1; omega
    have := mapM_some_get h i i (by simp [hin])
    rw [this]
    exact hi
  · cases h

theorem Opens.slice {α : Type} {t e : TypeId} {d : Kd α} {G : α → Prop} (ht : P.underlying t = some (.slice e)) (hs : P.cellsOf e = d.sz) (h : Opens enc P w spare held e d G) :
    Opens enc P w spare held t (Kd.slice e d) (fun xs => xs.length ≤ maxLen ∧ ∀ x ∈ xs, G x) := by
  intro fuel cs x hx
  rcases Deep.open_slice ht hx with ⟨rfl, _⟩ | ⟨a, len, cap, m, n, D, Pl, rfl, _, hl, hm, hmm, _, hel⟩
  · exact ⟨[], ⟨none, 0, rfl, Nat.le_refl _, rfl, Nat.zero_le _, fun h => by simp at h⟩, Nat.zero_le _, fun x hx => by simp at hx⟩
  · have hlm : len ≤ m := by rw [hmm]; split <;> omega
    have each : ∀ i, i < len → ∃ y : α × List Value, d.K w y.1 y.2 ∧ G y.1 ∧ y.2.length = d.sz ∧ ∀ j u, y.2[j]? = some u → w.cell? (a.add (i * d.sz + j)) = some u := by
      intro i hi
      obtain ⟨cs', h1, h2⟩ := hel i (by omega)
      obtain ⟨y, hy, hg⟩ := h _ _ _ h2
      obtain ⟨hl', hc⟩ := cells?_at h1
      rw [hs] at hc hl'
      refine ⟨(y, cs'), hy, hg, hl', fun j u hj => ?_⟩
      rw [← Deep.add_add]
      exact hc j u hj
    have hne : len = 0 ∨ Nonempty (α × List Value) := by
      rcases Nat.eq_zero_or_pos len with h0 | h0
      · exact .inl h0
      · obtain ⟨y, _⟩ := each 0 h0
        exact .inr ⟨y⟩
    rcases hne with h0 | ⟨⟨y0⟩⟩
    · subst h0
      exact ⟨[], ⟨some a, cap, rfl, Nat.zero_le _, rfl, Nat.zero_le _, fun h => by simp at h⟩, Nat.zero_le _, fun x hx => by simp at hx⟩
    · have : Inhabited (α × List Value) := ⟨y0⟩
      obtain ⟨f, hf⟩ := Deep.choose_lt each
      have hlen : ((List.range len).map fun i => (f i).1).length = len := by simp
      have hml : len ≤ maxLen := by omega
      refine ⟨(List.range len).map fun i => (f i).1, ⟨some a, cap, by rw [hlen], by rw [hlen]; exact hl, ?_⟩, by rw [hlen]; exact hml, ?_⟩
      · refine ⟨rfl, by rw [hlen]; unfold maxLen at hml; omega, fun _ => ⟨a, rfl, fun j p hj => ?_⟩⟩
        have hj' : j < len := by have := (List.getElem?_eq_some_iff.1 hj).1; rwa [hlen] at this
        simp only [List.getElem?_map, List.getElem?_range hj', Option.map_some, Option.some.injEq] at hj
        subst hj
        obtain ⟨h1, h2, h3, h4⟩ := hf j hj'
        exact ⟨(f j).2, h3, h1, h4⟩
      · intro x hx
        simp only [List.mem_map, List.mem_range] at hx
        obtain ⟨i, hi, rfl⟩ := hx
        exact (hf i hi).2.1

theorem Opens.struct2 {α β : Type} {t : TypeId} {f0 f1 : Field} {d0 : Kd α} {d1 : Kd β} {G0 : α → Prop} {G1 : β → Prop} (ht : P.underlying t = some (.struct #[f0, f1]))
    (hs : f0.offset = 0 ∧ P.cellsOf f0.type = d0.sz ∧ f1.offset = d0.sz ∧ P.cellsOf f1.type = d1.sz ∧ P.cellsOf t = d0.sz + d1.sz)
    (h0 : Opens enc P w spare held f0.type d0 G0) (h1 : Opens enc P w spare held f1.type d1 G1) :
    Opens enc P w spare held t (Kd.pair d0 d1) (fun x => G0 x.1 ∧ G1 x.2) := by
  intro fuel cs x hx
  obtain ⟨xs, n, _, rfl, hl, hlen, hf⟩ := DataW.trod_struct ht hx
  obtain ⟨o0, s0, o1, s1, st⟩ := hs
  match xs, hlen with
  | [y0, y1], _ =>
    have e0 := hf 0 f0 rfl
    have e1 := hf 1 f1 rfl
    simp only [o0, s0, o1, s1, List.drop_zero, List.getElem?_cons_zero, List.getElem?_cons_succ] at e0 e1
    obtain ⟨a0, k0, g0⟩ := h0 _ _ _ e0
    obtain ⟨a1, k1, g1⟩ := h1 _ _ _ e1
    have hlast : (cs.drop d0.sz).take d1.sz = cs.drop d0.sz := List.take_of_length_le (by rw [List.length_drop]; omega)
    rw [hlast] at k1
    exact ⟨(a0, a1), ⟨_, _, (List.take_append_drop d0.sz cs).symm, k0, k1⟩, g0, g1⟩

theorem Opens.struct3 {α β γ : Type} {t : TypeId} {f0 f1 f2 : Field} {d0 : Kd α} {d1 : Kd β} {d2 : Kd γ} {G0 : α → Prop} {G1 : β → Prop} {G2 : γ → Prop} (ht : P.underlying t = some (.struct #[f0, f1, f2]))
    (hs : f0.offset = 0 ∧ P.cellsOf f0.type = d0.sz ∧ f1.offset = d0.sz ∧ P.cellsOf f1.type = d1.sz ∧ f2.offset = d0.sz + d1.sz ∧ P.cellsOf f2.type = d2.sz ∧ P.cellsOf t = d0.sz + (d1.sz + d2.sz))
    (h0 : Opens enc P w spare held f0.type d0 G0) (h1 : Opens enc P w spare held f1.type d1 G1) (h2 : Opens enc P w spare held f2.type d2 G2) :
    Opens enc P w spare held t (Kd.pair d0 (Kd.pair d1 d2)) (fun x => G0 x.1 ∧ G1 x.2.1 ∧ G2 x.2.2) := by
  intro fuel cs x hx
  obtain ⟨xs, n, _, rfl, hl, hlen, hf⟩ := DataW.trod_struct ht hx
  obtain ⟨o0, s0, o1, s1, o2, s2, st⟩ := hs
  match xs, hlen with
  | [y0, y1, y2], _ =>
    have e0 := hf 0 f0 rfl
    have e1 := hf 1 f1 rfl
    have e2 := hf 2 f2 rfl
    simp only [o0, s0, o1, s1, o2, s2, List.drop_zero, List.getElem?_cons_zero, List.getElem?_cons_succ] at e0 e1 e2
    obtain ⟨a0, k0, g0⟩ := h0 _ _ _ e0
    obtain ⟨a1, k1, g1⟩ := h1 _ _ _ e1
    obtain ⟨a2, k2, g2⟩ := h2 _ _ _ e2
    have hlast : (cs.drop (d0.sz + d1.sz)).take d2.sz = cs.drop (d0.sz + d1.sz) := List.take_of_length_le (by rw [List.length_drop]; omega)
    rw [hlast] at k2
    refine ⟨(a0, a1, a2), ⟨_, _, (List.take_append_drop d0.sz cs).symm, k0, ⟨_, _, (List.take_append_drop d1.sz (cs.drop d0.sz)).symm, k1, ?_⟩⟩, g0, g1, g2⟩
    rw [List.drop_drop]
    exact k2

theorem Opens.struct4 {α β γ δ : Type} {t : TypeId} {f0 f1 f2 f3 : Field} {d0 : Kd α} {d1 : Kd β} {d2 : Kd γ} {d3 : Kd δ} {G0 : α → Prop} {G1 : β → Prop} {G2 : γ → Prop} {G3 : δ → Prop} (ht : P.underlying t = some (.struct #[f0, f1, f2, f3]))
    (hs : f0.offset = 0 ∧ P.cellsOf f0.type = d0.sz ∧ f1.offset = d0.sz ∧ P.cellsOf f1.type = d1.sz ∧ f2.offset = d0.sz + d1.sz ∧ P.cellsOf f2.type = d2.sz ∧ f3.offset = d0.sz + d1.sz + d2.sz ∧ P.cellsOf f3.type = d3.sz ∧ P.cellsOf t = d0.sz + (d1.sz + (d2.sz + d3.sz)))
    (h0 : Opens enc P w spare held f0.type d0 G0) (h1 : Opens enc P w spare held f1.type d1 G1) (h2 : Opens enc P w spare held f2.type d2 G2) (h3 : Opens enc P w spare held f3.type d3 G3) :
    Opens enc P w spare held t (Kd.pair d0 (Kd.pair d1 (Kd.pair d2 d3))) (fun x => G0 x.1 ∧ G1 x.2.1 ∧ G2 x.2.2.1 ∧ G3 x.2.2.2) := by
  intro fuel cs x hx
  obtain ⟨xs, n, _, rfl, hl, hlen, hf⟩ := DataW.trod_struct ht hx
  obtain ⟨o0, s0, o1, s1, o2, s2, o3, s3, st⟩ := hs
  match xs, hlen with
  | [y0, y1, y2, y3], _ =>
    have e0 := hf 0 f0 rfl
    have e1 := hf 1 f1 rfl
    have e2 := hf 2 f2 rfl
    have e3 := hf 3 f3 rfl
    simp only [o0, s0, o1, s1, o2, s2, o3, s3, List.drop_zero, List.getElem?_cons_zero, List.getElem?_cons_succ] at e0 e1 e2 e3
    obtain ⟨a0, k0, g0⟩ := h0 _ _ _ e0
    obtain ⟨a1, k1, g1⟩ := h1 _ _ _ e1
    obtain ⟨a2, k2, g2⟩ := h2 _ _ _ e2
    obtain ⟨a3, k3, g3⟩ := h3 _ _ _ e3
    have hlast : (cs.drop (d0.sz + d1.sz + d2.sz)).take d3.sz = cs.drop (d0.sz + d1.sz + d2.sz) := List.take_of_length_le (by rw [List.length_drop]; omega)
    rw [hlast] at k3
    refine ⟨(a0, a1, a2, a3), ⟨_, _, (List.take_append_drop d0.sz cs).symm, k0, ⟨_, _, (List.take_append_drop d1.sz (cs.drop d0.sz)).symm, k1, ⟨_, _, (List.take_append_drop d2.sz ((cs.drop d0.sz).drop d1.sz)).symm, ?_, ?_⟩⟩⟩, g0, g1, g2, g3⟩
    · rw [List.drop_drop]; exact k2
    · rw [List.drop_drop, List.drop_drop, ← Nat.add_assoc]; exact k3

theorem Opens.struct5 {α β γ δ ε : Type} {t : TypeId} {f0 f1 f2 f3 f4 : Field} {d0 : Kd α} {d1 : Kd β} {d2 : Kd γ} {d3 : Kd δ} {d4 : Kd ε} {G0 : α → Prop} {G1 : β → Prop} {G2 : γ → Prop} {G3 : δ → Prop} {G4 : ε → Prop} (ht : P.underlying t = some (.struct #[f0, f1, f2, f3, f4]))
    (hs : f0.offset = 0 ∧ P.cellsOf f0.type = d0.sz ∧ f1.offset = d0.sz ∧ P.cellsOf f1.type = d1.sz ∧ f2.offset = d0.sz + d1.sz ∧ P.cellsOf f2.type = d2.sz ∧ f3.offset = d0.sz + d1.sz + d2.sz ∧ P.cellsOf f3.type = d3.sz ∧ f4.offset = d0.sz + d1.sz + d2.sz + d3.sz ∧ P.cellsOf f4.type = d4.sz ∧ P.cellsOf t = d0.sz + (d1.sz + (d2.sz + (d3.sz + d4.sz))))
    (h0 : Opens enc P w spare held f0.type d0 G0) (h1 : Opens enc P w spare held f1.type d1 G1) (h2 : Opens enc P w spare held f2.type d2 G2) (h3 : Opens enc P w spare held f3.type d3 G3) (h4 : Opens enc P w spare held f4.type d4 G4) :
    Opens enc P w spare held t (Kd.pair d0 (Kd.pair d1 (Kd.pair d2 (Kd.pair d3 d4)))) (fun x => G0 x.1 ∧ G1 x.2.1 ∧ G2 x.2.2.1 ∧ G3 x.2.2.2.1 ∧ G4 x.2.2.2.2) := by
  intro fuel cs x hx
  obtain ⟨xs, n, _, rfl, hl, hlen, hf⟩ := DataW.trod_struct ht hx
  obtain ⟨o0, s0, o1, s1, o2, s2, o3, s3, o4, s4, st⟩ := hs
  match xs, hlen with
  | [y0, y1, y2, y3, y4], _ =>
    have e0 := hf 0 f0 rfl
    have e1 := hf 1 f1 rfl
    have e2 := hf 2 f2 rfl
    have e3 := hf 3 f3 rfl
    have e4 := hf 4 f4 rfl
    simp only [o0, s0, o1, s1, o2, s2, o3, s3, o4, s4, List.drop_zero, List.getElem?_cons_zero, List.getElem?_cons_succ] at e0 e1 e2 e3 e4
    obtain ⟨a0, k0, g0⟩ := h0 _ _ _ e0
    obtain ⟨a1, k1, g1⟩ := h1 _ _ _ e1
    obtain ⟨a2, k2, g2⟩ := h2 _ _ _ e2
    obtain ⟨a3, k3, g3⟩ := h3 _ _ _ e3
    obtain ⟨a4, k4, g4⟩ := h4 _ _ _ e4
    have hlast : (cs.drop (d0.sz + d1.sz + d2.sz + d3.sz)).take d4.sz = cs.drop (d0.sz + d1.sz + d2.sz + d3.sz) := List.take_of_length_le (by rw [List.length_drop]; omega)
    rw [hlast] at k4
    refine ⟨(a0, a1, a2, a3, a4), ⟨_, _, (List.take_append_drop d0.sz cs).symm, k0, ⟨_, _, (List.take_append_drop d1.sz (cs.drop d0.sz)).symm, k1, ⟨_, _, (List.take_append_drop d2.sz ((cs.drop d0.sz).drop d1.sz)).symm, ?_, ⟨_, _, (List.take_append_drop d3.sz (((cs.drop d0.sz).drop d1.sz).drop d2.sz)).symm, ?_, ?_⟩⟩⟩⟩, g0, g1, g2, g3, g4⟩
    · rw [List.drop_drop]; exact k2
    · rw [List.drop_drop, List.drop_drop, ← Nat.add_assoc]; exact k3
    · rw [List.drop_drop, List.drop_drop, List.drop_drop, ← Nat.add_assoc, ← Nat.add_assoc]; exact k4

theorem Opens.iso {α β : Type} {t : TypeId} {d : Kd α} {G : α → Prop} (f : β → α) (g : α → β) (hfg : ∀ x, f (g x) = x) (h : Opens enc P w spare held t d G) : Opens enc P w spare held t (Kd.iso d f) (fun y => G (f y)) := by
  intro fuel cs x hx
  obtain ⟨a, k, hg⟩ := h _ _ _ hx
  refine ⟨g a, ?_, by show G (f (g a)); rw [hfg]; exact hg⟩
  show d.K w (f (g a)) cs
  rw [hfg]
  exact k

end

end Go.Proofs.Ytplgelmfhacjkaa

namespace Go.Proofs.Ytplgelmfhacjkaa
open Go.RowKit Go.Proofs.YtplgelmfhacjkaaW.PrintWords

theorem strs_cell {w : World} {ad : Addr} {n : Nat} {ys : List ByteArray} (h : Kd.C Kd.string w (some ad) n ys) : ∀ j u, (ys.map Value.string)[j]? = some u → w.cell? (ad.add j) = some u := by
  intro j u hu
  obtain ⟨hl, hn, hr⟩ := h
  simp only [List.getElem?_map, Option.map_eq_some_iff] at hu
  obtain ⟨s, hs, rfl⟩ := hu
  have hj := (List.getElem?_eq_some_iff.1 hs).1
  obtain ⟨ad', e, hc⟩ := hr (by omega)
  cases e
  obtain ⟨c, _, hk, hcell⟩ := hc j s hs
  have : c = [.string s] := hk
  subst this
  have e1 : j * Kd.string.sz + 0 = j := by show j * 1 + 0 = j; omega
  have := hcell 0 _ rfl
  rwa [e1] at this

theorem run_append_strs {P : Program} (w : World) (base : Nat) (t ty e : TypeId) (i : TypeInfo) (ht : P.underlying t = some (.slice e)) (hi : P.info? e = some i) (hz : i.zero = some (.string ⟨#[]⟩)) (hsize : i.size = 1) (hby : i.bytes = 16)
    (v : Value) (xs ys : List ByteArray) (hown : w.ownsRow base e 1 v xs.length (xs.map Value.string)) (A : Option Addr) (c : Nat) (hr : Kd.C Kd.string w A ys.length ys) (hl : xs.length + ys.length ≤ 1000000) (hbase : base ≤ w.heap.size) :
    ∃ v' w', (Builtin.append_ #[t, t] ty #[v, .slice A ys.length c]).run P w = .ok v' w' ∧ w'.ownsRow base e 1 v' (xs ++ ys).length ((xs ++ ys).map Value.string) ∧ w.grownBy w' v.ownBlock ∧ (v'.ownBlock = v.ownBlock ∨ v'.ownBlock = some w.heap.size) := by
  rcases A with _ | ad
  · have h0 : ys.length = 0 := by
      rcases Nat.eq_zero_or_pos ys.length with h0 | h0
      · exact h0
      · obtain ⟨ad, h, _⟩ := hr.2.2 h0
        cases h
    obtain rfl : ys = [] := List.eq_nil_of_length_eq_zero h0
    refine ⟨v, w, ?_, by simpa using hown, ⟨rfl, rfl, rfl, Nat.le_refl _, fun _ _ _ => rfl⟩, .inl rfl⟩
    rcases hown.2 with ⟨rfl, hn⟩ | ⟨g, cap, cur, rfl, _, _, hnc, _⟩
    · simp [Builtin.append_, run_underlying ht, sizeOf, typeInfo, hi, Builtin.lenOf, Builtin.firstCells]
    · simp [Builtin.append_, run_underlying ht, sizeOf, typeInfo, hi, Builtin.lenOf, Builtin.firstCells, hnc, storeCells]
  · obtain ⟨v', w', hrun, h2, h3, _, h5⟩ := run_append_own_at (P := P) w base t ty e i (.string ⟨#[]⟩) 1 16 ht hi hz hsize hby rfl (by omega) v xs.length (xs.map Value.string) hown ad ys.length c (ys.map Value.string) (by simp) (strs_cell hr)
      (by intro u hu; simp only [List.mem_map] at hu; obtain ⟨q, _, rfl⟩ := hu; rfl) (by simp only [maxLen]; omega) (by omega) hbase
    refine ⟨v', w', hrun, ?_, h3, h5⟩
    rw [List.length_append, List.map_append]
    exact h2

theorem wpList_append_strs {P : Program} (w : World) {ops : Array Oper} {rest : List Oper} {o : Oper} {a : Act} {Q : Exit → Act → World → Prop} (hgd : o.guard = none) (s x : Operand) (t : TypeId)
    (ho : o.op = .call { callee := .builtin .append, args := #[s, x], argTypes := #[t, t] })
    (base : Nat) (e : TypeId) (i : TypeInfo) (ht : P.underlying t = some (.slice e)) (hi : P.info? e = some i) (hz : i.zero = some (.string ⟨#[]⟩)) (hsize : i.size = 1) (hby : i.bytes = 16)
    (v : Value) (xs ys : List ByteArray) (hs : a.eval s = v) (hown : w.ownsRow base e 1 v xs.length (xs.map Value.string)) (A : Option Addr) (c : Nat) (hx : a.eval x = .slice A ys.length c) (hr : Kd.C Kd.string w A ys.length ys) (hl : xs.length + ys.length ≤ 1000000) (hbase : base ≤ w.heap.size)
    (h : ∀ v' w', w'.ownsRow base e 1 v' (xs ++ ys).length ((xs ++ ys).map Value.string) → w.grownBy w' v.ownBlock → (v'.ownBlock = v.ownBlock ∨ v'.ownBlock = some w.heap.size) → wpList P ops Q rest (a.put o.dst v') w') :
    wpList P ops Q (o :: rest) a w := by
  refine wpList_plain hgd fun K hK => ?_
  obtain ⟨v', w', hrun, h2, h3, h5⟩ := run_append_strs (P := P) w base t o.type e i ht hi hz hsize hby v xs ys hown A c hr hl hbase
  unfold Oper.wp execOp
  simp only [ho, resolve, invoke, builtin, Sem.run_bind, Sem.run_pure, Result.andThen_ok, List.map_toArray, List.map_cons, List.map_nil, hs, hx, hrun]
  exact hK _ _ (h v' w' h2 h3 h5)

/-- A row of texts of the call's own is read. -/
theorem own_read {w : World} {base : Nat} {e : TypeId} {v : Value} {xs : List ByteArray} (h : w.ownsRow base e 1 v xs.length (xs.map Value.string)) (hl : xs.length ≤ 1000000) :
    ∃ A c, v = .slice A xs.length c ∧ xs.length ≤ c ∧ Kd.C Kd.string w A xs.length xs ∧ (∀ ad, A = some ad → v.ownBlock = some ad.block) := by
  have hc := fun g (hg : v.ownBlock = some g) => h.cells hg
  rcases h.2 with ⟨rfl, h0⟩ | ⟨g, cap, cur, rfl, hb, hg, hn, hm, hs, ht⟩
  · exact ⟨none, 0, by rw [h0], by omega, ⟨rfl, by omega, fun h => by omega⟩, fun ad e => by cases e⟩
  · refine ⟨_, _, rfl, hn, ⟨rfl, by omega, fun _ => ⟨_, rfl, fun j p hj => ⟨[.string p], rfl, rfl, fun i u hi => ?_⟩⟩⟩, fun ad e => by cases e; rfl⟩
    have hi0 : i = 0 := by
      have := (List.getElem?_eq_some_iff.1 hi).1
      simp at this
      exact this
    subst hi0
    simp only [List.getElem?_cons_zero, Option.some.injEq] at hi
    subst hi
    have := hc g rfl j (.string p) (by simp [hj])
    show w.cell? ((⟨g, 0, none⟩ : Addr).add (j * 1 + 0)) = _
    rw [Nat.mul_one, Nat.add_zero]
    exact this

/-- A row in the print's word, as a row of texts. -/
theorem strs_of_R {w : World} {base e : Nat} {ok : Nat → Prop} {v : Value} {xs : List ByteArray} (h : Kd.R Kd.string e w base ok v xs) : w.ownsRow base e 1 v xs.length (xs.map Value.string) := by
  obtain ⟨_, inner, ho, hlen, hr⟩ := h
  have e1 : inner = xs.map Value.string := by
    apply List.ext_getElem?
    intro j
    have hl : inner.length = xs.length := by have : inner.length = xs.length * 1 := hlen; omega
    by_cases hj : j < xs.length
    · have hp := hr j xs[j] (List.getElem?_eq_getElem hj)
      have hp' : (inner.drop (j * 1)).take 1 = [.string xs[j]] := hp
      rw [Nat.mul_one] at hp'
      have h0 := congrArg (·[0]?) hp'
      simp only [List.getElem?_take, List.getElem?_drop, Nat.add_zero, Nat.zero_lt_one, if_true, List.getElem?_cons_zero] at h0
      rw [h0]
      simp [hj]
    · rw [List.getElem?_eq_none (by omega), List.getElem?_eq_none (by simp; omega)]
  rw [← e1]
  exact ho

end Go.Proofs.Ytplgelmfhacjkaa

namespace Go.Proofs.Ytplgelmfhacjkaa
open Go.RowKit Go.Proofs.YtplgelmfhacjkaaW.PrintWords

open Go.RowKit Go.Proofs.YtplgelmfhacjkaaW.PrintWords

theorem asz (w : World) (o : Obj) : (w.alloc o).heap.size = w.heap.size + 1 := by simp

theorem eqs (a b : ByteArray) : (a.toList == b.toList) = decide (a = b) := by
  rw [ByteArray.toList_eq, ByteArray.toList_eq, Bool.eq_iff_iff]
  simp only [beq_iff_eq, decide_eq_true_eq]
  exact ⟨fun h => WideShapes.bytes_inj h, fun h => by rw [h]⟩

theorem own_slice {w : World} {base : Nat} {e : TypeId} {size n : Nat} {v : Value} {xs : List Value} (h : w.ownsRow base e size v n xs) : ∃ A c, v = .slice A n c ∧ n ≤ c := by
  rcases h.2 with ⟨rfl, h0⟩ | ⟨g, cap, cur, rfl, _, _, h1, _⟩
  · exact ⟨none, 0, by rw [h0], by omega⟩
  · exact ⟨_, _, rfl, h1⟩

theorem ownsRow_weaken {w : World} {base base' : Nat} {e : TypeId} {size n : Nat} {v : Value} {xs : List Value} (h : w.ownsRow base e size v n xs) (hb : base' ≤ base) : w.ownsRow base' e size v n xs := by
  refine ⟨h.1, ?_⟩
  rcases h.2 with h0 | ⟨g, cap, cur, h1, h2, h3⟩
  · exact .inl h0
  · exact .inr ⟨g, cap, cur, h1, Nat.le_trans hb h2, h3⟩

theorem own_kind {w : World} {base : Nat} {e : TypeId} {size n : Nat} {v : Value} {xs : List Value} (h : w.ownsRow base e size v n xs) {g : Nat} (hg : v.ownBlock = some g) : ∃ cur, w.heap[g]? = some (.cells cur e (0, 0)) := by
  rcases h.2 with ⟨rfl, _⟩ | ⟨g', cap, cur, rfl, _, hh, _⟩
  · cases hg
  · cases hg; exact ⟨cur, hh⟩

theorem own_ne {w : World} {b1 b2 : Nat} {e1 e2 : TypeId} {s1 s2 n1 n2 : Nat} {v1 v2 : Value} {x1 x2 : List Value} (h1 : w.ownsRow b1 e1 s1 v1 n1 x1) (h2 : w.ownsRow b2 e2 s2 v2 n2 x2) (he : e1 ≠ e2) {g : Nat} (hg : v1.ownBlock = some g) : some g ≠ v2.ownBlock := fun e => by
  obtain ⟨c1, h1⟩ := own_kind h1 hg
  obtain ⟨c2, h2⟩ := own_kind h2 e.symm
  rw [h1] at h2
  cases h2
  exact he rfl

theorem own_ne_map {w : World} {b1 : Nat} {e1 : TypeId} {s1 n1 : Nat} {v1 : Value} {x1 : List Value} (h1 : w.ownsRow b1 e1 s1 v1 n1 x1) {r : Nat} {m : List (ByteArray × Value)} (hm : MapL w r m) : some r ≠ v1.ownBlock := fun e => by
  obtain ⟨c1, h1⟩ := own_kind h1 e.symm
  exact hm.not_cells h1

/-- A row of the call's own, past a new block and the turn of a map. -/
theorem own_past {w w2 : World} {b1 : Nat} {e1 : TypeId} {s1 n1 : Nat} {v1 : Value} {x1 : List Value} (h1 : w.ownsRow b1 e1 s1 v1 n1 x1) {r : Nat} {m : List (ByteArray × Value)} (hm : MapL w r m) {o : Obj} (hg : (w.alloc o).grownBy w2 (some r)) : w2.ownsRow b1 e1 s1 v1 n1 x1 := by
  refine ownsRow_move h1 fun k hk => ?_
  have hlt := (h1.lt k hk).2
  rw [hg.block k (by simp; omega) (fun e => own_ne_map h1 hm (by rw [hk, e])), Below.heap_alloc _ _ _ hlt]

theorem own_pos {w : World} {base : Nat} {e : TypeId} {size : Nat} {v : Value} {n : Nat} {xs : List Value} (h : w.ownsRow base e size v n xs) (hn : 0 < n) : ∃ g cap, v = .slice (some ⟨g, 0, none⟩) n cap := by
  rcases h.2 with ⟨_, h0⟩ | ⟨g, cap, _, h1, _⟩
  · omega
  · exact ⟨g, cap, h1⟩

theorem own_other {w2 w3 : World} {o2 : Obj} {row : Option Nat} (hg3 : (w2.alloc o2).grownBy w3 row) {b e s n : Nat} {v : Value} {xs : List Value} (hv : w2.ownsRow b e s v n xs) (hne : ∀ g, v.ownBlock = some g → some g ≠ row) : w3.ownsRow b e s v n xs := by
  refine ownsRow_move hv fun g hg => ?_
  have hlt := (hv.lt g hg).2
  rw [hg3.block g (by simp; omega) (hne g hg), Below.heap_alloc _ _ _ hlt]

theorem setCell_row {w : World} {p j : Nat} {c : Array Value} {t : TypeId} {f : Nat × Nat} (u : Value) (h : w.heap[p]? = some (.cells c t f)) : (w.setCell ⟨p, j, none⟩ u).heap[p]? = some (.cells (c.setIfInBounds j u) t f) := by
  simp [World.setCell, Array.getElem?_modify, h]

/-- The cells of a new block are what was laid. -/
theorem cells_new (w : World) (c : List Value) (t : TypeId) (j : Nat) (u : Value) (h : c[j]? = some u) : (w.alloc (.cells c.toArray t)).cell? ((⟨w.heap.size, 0, none⟩ : Addr).add j) = some u := by
  have ha : (⟨w.heap.size, 0, none⟩ : Addr).add j = ⟨w.heap.size, j, none⟩ := by unfold Addr.add; split <;> simp_all
  rw [ha]
  unfold World.cell?
  rw [heap_alloc_new]
  simpa using h

theorem at_str {w : World} {A : Option Addr} {n : Nat} {xs : List ByteArray} (h : Kd.C Kd.string w A n xs) {i : Nat} (hi : i < xs.length) : ∃ ad, A = some ad ∧ w.cell? (ad.add i) = some (.string xs[i]) := by
  obtain ⟨hl, hn, hr⟩ := h
  obtain ⟨ad, e, hc⟩ := hr (by omega)
  obtain ⟨c, hs, hk, hcell⟩ := hc i _ (List.getElem?_eq_getElem hi)
  have : c = [.string xs[i]] := hk
  subst this
  refine ⟨ad, e, ?_⟩
  have := hcell 0 _ rfl
  have e1 : i * Kd.string.sz + 0 = i := by show i * 1 + 0 = i; omega
  rwa [e1] at this

/-- A row of strings, laid as a block, is read. -/
theorem strs_read {w : World} {g : Nat} {t : TypeId} {c : List Value} {xs : List ByteArray} (h : w.heap[g]? = some (.cells c.toArray t)) (hc : c = xs.map Value.string) (hl : xs.length ≤ 1000000) : Kd.C Kd.string w (some ⟨g, 0, none⟩) xs.length xs := by
  refine ⟨rfl, by omega, fun _ => ⟨_, rfl, fun j p hj => ⟨[.string p], rfl, rfl, fun i u hi => ?_⟩⟩⟩
  have hi0 : i = 0 := by
    have := (List.getElem?_eq_some_iff.1 hi).1
    simp at this
    exact this
  subst hi0
  simp only [List.getElem?_cons_zero, Option.some.injEq] at hi
  subst hi
  have ha : (⟨g, 0, none⟩ : Addr).add (j * 1 + 0) = ⟨g, j, none⟩ := by unfold Addr.add; split <;> simp_all
  show w.cell? ((⟨g, 0, none⟩ : Addr).add (j * 1 + 0)) = _
  rw [ha]
  simp [World.cell?, h, hc, hj]

open Go.RowKit Go.Proofs.YtplgelmfhacjkaaW.PrintWords

/-- An append to a row of the call's own, as one step of a region that draws. -/
theorem step_append_own {P : Program} {ops : Array Oper} {o : Oper} {a : Act} {w : World} {K : Act → World → Prop} {Q : Exit → Act → World → Prop} {E : Prop}
    (hg : o.guard = none) (s x : Operand) (t : TypeId) (ho : o.op = .call { callee := .builtin .append, args := #[s, x], argTypes := #[t, t] })
    (base : Nat) (e : TypeId) (i : TypeInfo) (z : Value) (size bytes : Nat) (ht : P.underlying t = some (.slice e)) (hi : P.info? e = some i) (hz : i.zero = some z)
    (hsize : i.size = size) (hby : i.bytes = bytes) (hzs : z.cells.size = size) (hsz : 0 < size)
    (v : Value) (n : Nat) (xs : List Value) (hs : a.eval s = v) (hown : w.ownsRow base e size v n xs)
    (ad : Addr) (m c : Nat) (news : List Value) (hx : a.eval x = .slice (some ad) m c) (hl : news.length = m * size) (hnews : ∀ j u, news[j]? = some u → w.cell? (ad.add j) = some u) (h1 : ∀ u ∈ news, u.oneCell' = true)
    (h63 : n + m ≤ maxLen) (hbytes : (n + m) * bytes ≤ 140737488355328) (hbase : base ≤ w.heap.size)
    (h : ∀ v' w', w'.ownsRow base e size v' (n + m) (xs ++ news) → w.grownBy w' v.ownBlock → (v' = .slice none 0 0 ↔ v = .slice none 0 0 ∧ m = 0) → (v'.ownBlock = v.ownBlock ∨ v'.ownBlock = some w.heap.size) → K (a.put o.dst v') w') :
    if Region.wanted o (yielded ops a.tmps) = true then Oper.wp P o a w K Q else E := by
  rw [if_pos (by simp [Region.wanted, hg])]
  obtain ⟨v', w', hr, h2, h3, h4, h5⟩ := run_append_own_at (P := P) w base t o.type e i z size bytes ht hi hz hsize hby hzs hsz v n xs hown ad m c news hl hnews h1 h63 hbytes hbase
  unfold Oper.wp execOp
  simp only [ho, resolve, invoke, builtin, Sem.run_bind, Sem.run_pure, Result.andThen_ok, List.map_toArray, List.map_cons, List.map_nil, hs, hx, hr]
  exact h v' w' h2 h3 h4 h5

open Go.RowKit Go.Proofs.YtplgelmfhacjkaaW.PrintWords

theorem step_append_set {P : Program} {ops : Array Oper} {o : Oper} {a : Act} {w : World} {K : Act → World → Prop} {Q : Exit → Act → World → Prop} {E : Prop}
    (hg : o.guard = none) (s x : Operand) (t : TypeId) (ho : o.op = .call { callee := .builtin .append, args := #[s, x], argTypes := #[t, t] })
    (e : TypeId) (i : TypeInfo) (size : Nat) (ht : P.underlying t = some (.slice e)) (hi : P.info? e = some i) (hsize : i.size = size)
    (g n cap : Nat) (cur : Array Value) (hgc : w.heap[g]? = some (.cells cur e (0, 0))) (hs : a.eval s = .slice (some ⟨g, 0, none⟩) n cap)
    (ad : Addr) (m c : Nat) (news : List Value) (hx : a.eval x = .slice (some ad) m c) (hl : news.length = m * size) (hnews : ∀ j u, news[j]? = some u → w.cell? (ad.add j) = some u) (h1 : ∀ u ∈ news, u.oneCell' = true)
    (hroom : n + m ≤ cap) (hfit : n * size + news.length ≤ cur.size)
    (h : K (a.put o.dst (.slice (some ⟨g, 0, none⟩) (n + m) cap)) (w.setRow g (cur.toList.take (n * size) ++ news ++ cur.toList.drop (n * size + news.length)).toArray)) :
    if Region.wanted o (yielded ops a.tmps) = true then Oper.wp P o a w K Q else E := by
  rw [if_pos (by simp [Region.wanted, hg])]
  subst hsize
  have hr := run_append_room (P := P) w t o.type e i ht hi g n cap cur hgc ad m c news hl hnews h1 hroom hfit
  unfold Oper.wp execOp
  simp only [ho, resolve, invoke, builtin, Sem.run_bind, Sem.run_pure, Result.andThen_ok, List.map_toArray, List.map_cons, List.map_nil, hs, hx, hr]
  exact h

theorem own_below {w w' : World} {base : Nat} {e : TypeId} {size n : Nat} {v : Value} {xs : List Value} (h : w.ownsRow base e size v n xs) (hb : Below w.heap.size w w') : w'.ownsRow base e size v n xs :=
  ownsRow_move h fun b hk => hb.block b (h.lt b hk).2

theorem addk' (g o j : Nat) : (⟨g, o, none⟩ : Addr).add j = ⟨g, o + j, none⟩ := by unfold Addr.add; split <;> simp_all

theorem add0 (g j : Nat) : (⟨g, 0, none⟩ : Addr).add j = ⟨g, j, none⟩ := by unfold Addr.add; split <;> simp_all

open Go.RowKit Go.Proofs.YtplgelmfhacjkaaW.PrintWords

theorem RangeL.left_eq {w : World} {r b : Nat} {m left : List (ByteArray × Value)} (h : RangeL w r b m left) : w.rangeLeft b r = left.length := by
  obtain ⟨es, clock, since, seen, c0, hb, hs, he, hr, hx, hc, hk, hl⟩ := h
  have := congrArg List.length hl
  simp only [List.length_map, Array.length_toList] at this
  unfold World.rangeLeft
  rw [hb, hr]
  exact this

theorem box3 {w : World} {b : Nat} {x y z : Value} {t : TypeId} (h : w.heap[b]? = some (.cells #[x, y, z] t)) : w.cell? ⟨b, 0, none⟩ = some x ∧ w.cell? ⟨b, 1, none⟩ = some y ∧ w.cell? ⟨b, 2, none⟩ = some z := by
  refine ⟨by simp [World.cell?, h], by simp [World.cell?, h], by simp [World.cell?, h]⟩

theorem box4 {w : World} {b : Nat} {x y z u : Value} {t : TypeId} (h : w.heap[b]? = some (.cells #[x, y, z, u] t)) : w.cell? ⟨b, 0, none⟩ = some x ∧ w.cell? ⟨b, 1, none⟩ = some y ∧ w.cell? ⟨b, 2, none⟩ = some z ∧ w.cell? ⟨b, 3, none⟩ = some u := by
  refine ⟨by simp [World.cell?, h], by simp [World.cell?, h], by simp [World.cell?, h], by simp [World.cell?, h]⟩

theorem box_after {wr w2 : World} {cs : Array Value} {t : TypeId} {r : Nat} (hg : (wr.alloc (.cells cs t)).grownBy w2 (some r)) (hr : r < wr.heap.size) : w2.heap[wr.heap.size]? = some (.cells cs t) := by
  rw [hg.block wr.heap.size (by simp) (by simp; omega)]
  exact heap_alloc_new wr _

theorem blk_keep {w wr w1 : World} {o : Obj} {row : Option Nat} {p : Nat} (hw : Below w.heap.size w wr) (hp : p < w.heap.size) (hg : (wr.drew.alloc o).grownBy w1 row) (hr : some p ≠ row) : w1.heap[p]? = w.heap[p]? := by
  have hp2 : p < wr.heap.size := Nat.lt_of_lt_of_le hp hw.size
  rw [hg.block p (by simp; omega) hr, Below.heap_alloc _ _ _ (by simpa using hp2)]
  exact hw.block p hp

/-- A cell kept, behind a call that writes nothing elder. -/
theorem keepB {wc x y : World} {g j : Nat} {u : Value} (h1 : x.cell? ⟨g, j, none⟩ = some u) (h2 : Below wc.heap.size wc x) (hb : Below x.heap.size x y) : y.cell? ⟨g, j, none⟩ = some u ∧ Below wc.heap.size wc y :=
  ⟨(hb.cell (World.block_lt_of_cell? _ _ h1)).trans h1, h2.trans (hb.mono h2.size)⟩

theorem keep3 {x y : World} {g : Nat} {u1 u2 u3 : Value} (h1 : x.cell? ⟨g, 1, none⟩ = some u1) (h2 : x.cell? ⟨g, 2, none⟩ = some u2) (h3 : x.cell? ⟨g, 3, none⟩ = some u3) (hb : Below x.heap.size x y) :
    y.cell? ⟨g, 1, none⟩ = some u1 ∧ y.cell? ⟨g, 2, none⟩ = some u2 ∧ y.cell? ⟨g, 3, none⟩ = some u3 :=
  ⟨(hb.cell (World.block_lt_of_cell? _ _ h1)).trans h1, (hb.cell (World.block_lt_of_cell? _ _ h2)).trans h2, (hb.cell (World.block_lt_of_cell? _ _ h3)).trans h3⟩

theorem keepG {x y : World} {g : Nat} {u1 u2 u3 : Value} {o : Obj} {row : Option Nat} (h1 : x.cell? ⟨g, 1, none⟩ = some u1) (h2 : x.cell? ⟨g, 2, none⟩ = some u2) (h3 : x.cell? ⟨g, 3, none⟩ = some u3) (hg : (x.alloc o).grownBy y row) (hne : some g ≠ row) :
    y.cell? ⟨g, 1, none⟩ = some u1 ∧ y.cell? ⟨g, 2, none⟩ = some u2 ∧ y.cell? ⟨g, 3, none⟩ = some u3 := by
  have hl : g < x.heap.size := World.block_lt_of_cell? _ _ h1
  have e : y.heap[g]? = x.heap[g]? := by rw [hg.block g (by rw [asz]; omega) hne, Below.heap_alloc _ _ _ hl]
  exact ⟨(World.cell?_of_block e).trans h1, (World.cell?_of_block e).trans h2, (World.cell?_of_block e).trans h3⟩

theorem own_empty (w : World) (e : TypeId) (size : Nat) : (w.alloc (.cells #[] e)).drew.ownsRow w.heap.size e size (.slice (some ⟨w.heap.size, 0, none⟩) 0 0) 0 [] :=
  ownsRow_move (World.ownsRow_made w #[] 0 (Nat.le_refl _) (Nat.zero_le _) (by simp)) fun _ _ => rfl

theorem nodup_idx {α : Type} {l : List α} (h : l.Nodup) {i j : Nat} {x : α} (hi : l[i]? = some x) (hj : l[j]? = some x) : i = j := by
  obtain ⟨hi, ei⟩ := List.getElem?_eq_some_iff.1 hi
  obtain ⟨hj, ej⟩ := List.getElem?_eq_some_iff.1 hj
  rcases Nat.lt_trichotomy i j with h1 | h1 | h1
  · exact absurd (ei.trans ej.symm) (List.pairwise_iff_getElem.1 h i j hi hj h1)
  · exact h1
  · exact absurd (ej.trans ei.symm) (List.pairwise_iff_getElem.1 h j i hj hi h1)

end Go.Proofs.Ytplgelmfhacjkaa

namespace Go.Proofs.Ytplgelmfhacjkaa
open Go.RowKit Go.MapKept Go.Maps Go.Sort Go.Shelf

/-- Every value reads as itself. -/
def heldR (v : Value) : Option (DataW Value × List MemPlace) := some (.held v, [])

theorem toL_ofL (x : List UInt8) : (⟨x.toArray⟩ : ByteArray).data.toList = x := rfl
theorem ofL_toL (s : ByteArray) : (⟨s.data.toList.toArray⟩ : ByteArray) = s := by cases s; rfl

theorem MapL.owns {P : Program} {K : TypeId} (hK : P.underlying K = some .string) {w : World} {b : Nat} {m : List (ByteArray × Value)} (h : MapL w b m) (hk : ∀ p ∈ m, p.1.size ≤ maxLen) (hl : m.length ≤ maxLen) :
    ∃ D : DataW Value, w.ownsMap P K heldR b m.length D ∧ (strKeys D).Perm (m.map fun p => p.1.data.toList) ∧ Maps.size D = m.length := by
  obtain ⟨es, clock, hb, hs, he⟩ := h
  have hlen : es.size = m.length := by have := congrArg List.length he; simpa using this
  have hrd : ∀ x ∈ es.toList, ∃ p ∈ m, x.key = .string p.1 ∧ WideElems.rd P K heldR x = some (.string p.1.data.toList, .held x.val) := by
    intro x hx
    obtain ⟨j, hj⟩ := List.getElem?_of_mem hx
    obtain ⟨p, hp, e1, e2⟩ := entv_at he hj
    have hpm := List.mem_of_getElem? hp
    refine ⟨p, hpm, e1, ?_⟩
    have hkey : keyOf P K x.key = some (.string p.1.data.toList) := by
      rw [e1]
      simp [keyOf, hK, mapKey, hk p hpm]
    cases x
    exact WideElems.rd_mk (yv := (.held _, [])) hkey rfl
  have hfit : WideElems.Fit P K heldR es clock := ⟨by omega, hs, fun x hx => let ⟨p, _, _, h⟩ := hrd x hx; ⟨_, h⟩⟩
  refine ⟨_, ⟨es, clock, hb, hfit, by omega, rfl⟩, ?_, ?_⟩
  · have hperm := (WideShapes.sorted_perm (es.toList.map (WideElems.rg P K heldR))).map (fun p => strOf p.1)
    refine hperm.trans ?_
    have e : (es.toList.map (WideElems.rg P K heldR)).map (fun p => strOf p.1) = m.map fun p => p.1.data.toList := by
      apply List.ext_getElem?
      intro i
      simp only [List.getElem?_map, Array.getElem?_toList]
      cases hi : es[i]? with
      | none =>
        have : m[i]? = none := by
          rw [List.getElem?_eq_none_iff]
          have := Array.getElem?_eq_none_iff.1 hi
          omega
        simp [this]
      | some x =>
        have hj : es.toList[i]? = some x := by simpa using hi
        obtain ⟨p, hp, e1, e2⟩ := entv_at he hj
        obtain ⟨p', hp', e1', hr⟩ := hrd x (List.mem_of_getElem? hj)
        rw [e1] at e1'
        simp only [Value.string.injEq] at e1'
        rw [hp]
        simp only [Option.map_some, WideElems.rg_of hr, e1']
        rfl
    rw [e]
  · show ((es.toList.map (WideElems.rg P K heldR)).foldr DataW.insert []).length = m.length
    rw [length_sorted]
    simpa using hlen

theorem leB_trans (a b c : List UInt8) (h : leB a b = true) (k : leB b c = true) : leB a c = true := by
  simp only [leB, decide_eq_true_eq] at *
  exact Std.le_trans h k

theorem leB_total (a b : List UInt8) : (leB a b || leB b a) = true := by
  simp only [leB, Bool.or_eq_true, decide_eq_true_eq]
  exact Std.le_total

/-- Rising, by Go's order of strings. -/
def Rising (l : List ByteArray) : Prop := l.Pairwise fun a b => a.data.toList ≤ b.data.toList

/-- The sorted keys, as byte strings. -/
theorem sorted_keys {m : List (ByteArray × Value)} {ss : List (List UInt8)} {D : DataW Value} (h : ss.Perm (strKeys D)) (hD : (strKeys D).Perm (m.map fun p => p.1.data.toList)) :
    ∃ r : List ByteArray, r.Perm (m.map (·.1)) ∧ Rising r ∧ (ss.mergeSort (fun x y => decide (x ≤ y))).map encStr = r.map Value.string ∧ r.length = ss.length := by
  refine ⟨(ss.mergeSort (fun x y => decide (x ≤ y))).map fun x => ⟨x.toArray⟩, ?_, ?_, ?_, by simp⟩
  · have h1 := ((List.mergeSort_perm ss (fun x y => decide (x ≤ y))).trans (h.trans hD)).map (fun x : List UInt8 => (⟨x.toArray⟩ : ByteArray))
    refine h1.trans ?_
    rw [List.map_map]
    have : (fun x : List UInt8 => (⟨x.toArray⟩ : ByteArray)) ∘ (fun p : ByteArray × Value => p.1.data.toList) = fun p => p.1 := by
      funext p
      exact ofL_toL p.1
    rw [this]
  · unfold Rising
    rw [List.pairwise_map]
    exact (List.pairwise_mergeSort (le := leB) leB_trans leB_total ss).imp fun {a b} h => by simpa [leB] using h
  · rw [List.map_map]
    rfl

end Go.Proofs.Ytplgelmfhacjkaa

namespace Go.Proofs.Ytplgelmfhacjkaa
open Go.RowKit Go.Proofs.YtplgelmfhacjkaaW.PrintWords

def ltS (a b : ByteArray) : Prop := a.data.toList < b.data.toList
instance (a b : ByteArray) : Decidable (ltS a b) := inferInstanceAs (Decidable (a.data.toList < b.data.toList))
def SRising (l : List ByteArray) : Prop := l.Pairwise ltS

theorem ltS_irrefl (a : ByteArray) : ¬ ltS a a := Std.lt_irrefl
theorem ltS_trans {a b c : ByteArray} (h : ltS a b) (k : ltS b c) : ltS a c := Std.lt_trans h k
theorem ltS_total {a b : ByteArray} (h : ¬ ltS a b) (hne : a ≠ b) : ltS b a := by
  unfold ltS at *
  rw [Std.not_lt] at h
  exact Std.lt_of_le_of_ne h (fun e => hne (WideShapes.bytes_inj e.symm))

theorem less_eq (a b : ByteArray) : Op.bytesLess a.toList b.toList = decide (ltS a b) := by
  rw [Go.Proofs.bytesLess_eq, ByteArray.toList_eq, ByteArray.toList_eq]
  rfl

theorem toList_iff (a b : ByteArray) : a.toList = b.toList ↔ a = b := by
  rw [ByteArray.toList_eq, ByteArray.toList_eq]
  exact ⟨fun h => WideShapes.bytes_inj h, fun h => by rw [h]⟩

theorem Rising.strict {l : List ByteArray} (h : Rising l) (hn : l.Nodup) : SRising l := by
  have : l.Pairwise (fun a b => a.data.toList ≤ b.data.toList ∧ a ≠ b) := List.Pairwise.and h hn
  exact this.imp fun {a b} ⟨h1, h2⟩ => Std.lt_of_le_of_ne h1 (fun e => h2 (WideShapes.bytes_inj e))

/-- Two rising lists of the same texts are one. -/
theorem srising_eq : ∀ {a b : List ByteArray}, SRising a → SRising b → (∀ s, s ∈ a ↔ s ∈ b) → a = b
  | [], [], _, _, _ => rfl
  | [], y :: b, _, _, h => by have := (h y).2 (by simp); simp at this
  | x :: a, [], _, _, h => by have := (h x).1 (by simp); simp at this
  | x :: a, y :: b, ha, hb, h => by
    obtain ⟨ha1, ha2⟩ := List.pairwise_cons.1 ha
    obtain ⟨hb1, hb2⟩ := List.pairwise_cons.1 hb
    have hxy : x = y := by
      have h1 : x ∈ y :: b := (h x).1 (by simp)
      have h2 : y ∈ x :: a := (h y).2 (by simp)
      rcases List.mem_cons.1 h1 with e | h1
      · exact e
      · rcases List.mem_cons.1 h2 with e | h2
        · exact e.symm
        · exact absurd (ltS_trans (ha1 y h2) (hb1 x h1)) (ltS_irrefl x)
    subst hxy
    congr 1
    refine srising_eq ha2 hb2 fun s => ?_
    have hs := h s
    simp only [List.mem_cons] at hs
    constructor
    · intro hsa
      rcases hs.1 (.inr hsa) with e | h'
      · subst e; exact absurd (ha1 s hsa) (ltS_irrefl s)
      · exact h'
    · intro hsb
      rcases hs.2 (.inr hsb) with e | h'
      · subst e; exact absurd (hb1 s hsb) (ltS_irrefl s)
      · exact h'

theorem wrapS {i : Nat} (h : i < 4611686018427387904) : wrap64 ((i : Int) + 1) = ((i + 1 : Nat) : Int) := by
  unfold wrap64; omega

theorem rdOf_nat {α : Type} (d : α) (xs : List α) (i : Nat) : rdOf d xs (i : Int) = xs.getD i d := by simp [rdOf]
theorem rdOf_at {α : Type} {d : α} {xs : List α} {i : Nat} (h : i < xs.length) : rdOf d xs (i : Int) = xs[i] := by
  rw [rdOf_nat, List.getD_eq_getElem?_getD, List.getElem?_eq_getElem h]; rfl

theorem inB_cons (x : ByteArray) (l : List ByteArray) (s : ByteArray) : inB (x :: l) s = (decide (x = s) || inB l s) := rfl

end Go.Proofs.Ytplgelmfhacjkaa
