/- The prover's own library, first part: what a call leaves of memory (Fr), and maps keyed by strings (MapL, RangeL). No program in sight. -/
import Derived.WalkKit
import Derived.WalkSpells
import Derived.WalkLawsBesides
import Derived.Maps.RangeWalk
import Derived.Maps.OwnSet
namespace Go.Proofs.Ytdogmcpmlglkfaa
open Go.RowKit Go.MapKept
open Go.ChangeMaps (setBlock)

/-! ### what a call may turn -/

/-- Of the blocks that are there only those of which S holds may have turned. -/
structure Fr (S : Nat → Prop) (w w' : World) : Prop where
  os : w'.os = w.os
  tape : w'.tape = w.tape
  output : w'.output = w.output
  size : w.heap.size ≤ w'.heap.size
  block : ∀ k, k < w.heap.size → ¬ S k → w'.heap[k]? = w.heap[k]?

theorem Fr.refl (S : Nat → Prop) (w : World) : Fr S w w := ⟨rfl, rfl, rfl, Nat.le_refl _, fun _ _ _ => rfl⟩

/-- A further step, that may turn T: each of T that was there at first is of S. -/
theorem Fr.trans {S T : Nat → Prop} {a b c : World} (h : Fr S a b) (k : Fr T b c) (hT : ∀ i, i < a.heap.size → T i → S i) : Fr S a c :=
  ⟨k.os.trans h.os, k.tape.trans h.tape, k.output.trans h.output, Nat.le_trans h.size k.size,
    fun i hi hs => (k.block i (Nat.lt_of_lt_of_le hi h.size) (fun ht => hs (hT i hi ht))).trans (h.block i hi hs)⟩

theorem Fr.mono {S T : Nat → Prop} {w w' : World} (h : Fr S w w') (hT : ∀ i, i < w.heap.size → S i → T i) : Fr T w w' :=
  ⟨h.os, h.tape, h.output, h.size, fun i hi ht => h.block i hi (fun hs => ht (hT i hi hs))⟩

theorem Fr.drew {S : Nat → Prop} {a w : World} (h : Fr S a w) : Fr S a w.drew := ⟨h.os, h.tape, h.output, h.size, h.block⟩

theorem Fr.drewN {S : Nat → Prop} {a w : World} (h : Fr S a w) (n : Nat) : Fr S a (w.drewN n) := ⟨h.os, h.tape, h.output, h.size, h.block⟩

theorem Fr.alloc {S : Nat → Prop} {a w : World} (h : Fr S a w) (o : Obj) : Fr S a (w.alloc o) :=
  h.trans (T := fun _ => False) ⟨rfl, rfl, rfl, by simp, fun k hk _ => Below.heap_alloc _ _ _ hk⟩ (fun _ _ h => h.elim)

theorem Fr.setCell {S : Nat → Prop} {a w : World} (h : Fr S a w) {p : Addr} (hp : a.heap.size ≤ p.block ∨ S p.block) (u : Value) : Fr S a (w.setCell p u) :=
  h.trans (T := fun k => k = p.block) ⟨rfl, rfl, rfl, by simp [World.setCell], fun k _ hn => Below.heap_setCell _ _ _ _ hn⟩
    (fun i hi e => by subst e; rcases hp with hp | hp; · omega
                      · exact hp)

theorem Fr.grown {S : Nat → Prop} {a w w' : World} {row : Option Nat} (h : Fr S a w) (hg : w.grownBy w' row) (hr : ∀ k, row = some k → a.heap.size ≤ k ∨ S k) : Fr S a w' :=
  h.trans (T := fun k => some k = row) ⟨hg.os, hg.tape, hg.output, hg.size, fun k hk hn => hg.block k hk hn⟩
    (fun i hi e => by rcases hr i e.symm with h | h; · omega
                      · exact h)

theorem Fr.of_grown {w w' : World} {row : Option Nat} (hg : w.grownBy w' row) : Fr (fun k => some k = row) w w' :=
  ⟨hg.os, hg.tape, hg.output, hg.size, fun k hk hn => hg.block k hk hn⟩

theorem Fr.below {S : Nat → Prop} {a w w' : World} (h : Fr S a w) {B : Nat} (hb : Below B w w') (hB : a.heap.size ≤ B) : Fr S a w' :=
  ⟨hb.os.trans h.os, hb.tape.trans h.tape, hb.output.trans h.output, Nat.le_trans h.size hb.size,
    fun i hi hs => (hb.block i (by omega)).trans (h.block i hi hs)⟩

theorem Fr.of_below {S : Nat → Prop} {w w' : World} (hb : Below w.heap.size w w') : Fr S w w' :=
  ⟨hb.os, hb.tape, hb.output, hb.size, fun i hi _ => hb.block i hi⟩

/-- What turns nothing below B is a Below. -/
theorem Fr.to_below {S : Nat → Prop} {w w' : World} (h : Fr S w w') {B : Nat} (hB : B ≤ w.heap.size) (hS : ∀ k, k < B → ¬ S k) : Below B w w' :=
  ⟨h.os, h.tape, h.output, h.size, fun k hk => h.block k (by omega) (hS k hk)⟩

theorem Fr.cell {S : Nat → Prop} {w w' : World} (h : Fr S w w') {p : Addr} (hp : p.block < w.heap.size) (hs : ¬ S p.block) : w'.cell? p = w.cell? p :=
  World.cell?_of_block (w := w) (h.block p.block hp hs)

/-- A row of the call's own stands where its block stands. -/
theorem ownsRow_move {w w' : World} {base : Nat} {e : TypeId} {size : Nat} {v : Value} {n : Nat} {xs : List Value} (h : w.ownsRow base e size v n xs)
    (hk : ∀ k, v.ownBlock = some k → w'.heap[k]? = w.heap[k]?) : w'.ownsRow base e size v n xs := by
  refine ⟨h.1, ?_⟩
  rcases h.2 with hn | ⟨g, cap, cur, rfl, hb, hgg, rest⟩
  · exact .inl hn
  · exact .inr ⟨g, cap, cur, rfl, hb, (hk g (by simp [Value.ownBlock])).trans hgg, rest⟩

theorem ownsRow_fr {S : Nat → Prop} {w w' : World} {base : Nat} {e : TypeId} {size : Nat} {v : Value} {n : Nat} {xs : List Value} (h : w.ownsRow base e size v n xs)
    (hf : Fr S w w') (hk : ∀ k, v.ownBlock = some k → ¬ S k) : w'.ownsRow base e size v n xs :=
  ownsRow_move h fun k hk' => hf.block k (h.lt k hk').2 (hk k hk')

/-! ### maps keyed by strings -/

def mget (m : List (ByteArray × Value)) (k : ByteArray) : Option Value := (m.find? (fun p => decide (p.1 = k))).map (·.2)
def mhas (m : List (ByteArray × Value)) (k : ByteArray) : Bool := m.any (fun p => decide (p.1 = k))
def mput (m : List (ByteArray × Value)) (k : ByteArray) (v : Value) : List (ByteArray × Value) :=
  if mhas m k then m.map (fun p => if p.1 = k then (k, v) else p) else m ++ [(k, v)]
def mdel (m : List (ByteArray × Value)) (k : ByteArray) : List (ByteArray × Value) := m.filter (fun p => decide (p.1 ≠ k))

def entv (e : MapEntry) : Value × Value := (e.key, e.val)
def strv (p : ByteArray × Value) : Value × Value := (.string p.1, p.2)

/-- Block b of w is a map keyed by strings; its entries, in the order of their birth, are m. -/
def MapL (w : World) (b : Nat) (m : List (ByteArray × Value)) : Prop :=
  ∃ es clock, w.heap[b]? = some (.map es clock) ∧ Stamped es clock ∧ es.toList.map entv = m.map strv

theorem MapL.lt {w : World} {b : Nat} {m : List (ByteArray × Value)} (h : MapL w b m) : b < w.heap.size := by
  obtain ⟨es, clock, hb, _⟩ := h
  exact (Array.getElem?_eq_some_iff.1 hb).1

theorem MapL.move {w w' : World} {b : Nat} {m : List (ByteArray × Value)} (h : MapL w b m) (he : w'.heap[b]? = w.heap[b]?) : MapL w' b m := by
  obtain ⟨es, clock, hb, hr⟩ := h
  exact ⟨es, clock, he.trans hb, hr⟩

theorem MapL.fr {S : Nat → Prop} {w w' : World} {b : Nat} {m : List (ByteArray × Value)} (h : MapL w b m) (hf : Fr S w w') (hs : ¬ S b) : MapL w' b m :=
  h.move (hf.block b h.lt hs)

theorem MapL.alloc {w : World} {b : Nat} {m : List (ByteArray × Value)} (h : MapL w b m) (o : Obj) : MapL (w.alloc o) b m :=
  h.move (Below.heap_alloc _ _ _ h.lt)

theorem MapL.made (w : World) : MapL (w.alloc (.map #[] 0)) w.heap.size [] :=
  ⟨#[], 0, (MapKept.heap_alloc w _).1, stamped_empty 0, rfl⟩

theorem MapL.not_cells {w : World} {b : Nat} {m : List (ByteArray × Value)} (h : MapL w b m) {c : Array Value} {t : TypeId} {f : Nat × Nat} (hc : w.heap[b]? = some (.cells c t f)) : False := by
  obtain ⟨es, clock, hb, _⟩ := h
  rw [hb] at hc
  cases hc

theorem entv_keys {es : Array MapEntry} {m : List (ByteArray × Value)} (h : es.toList.map entv = m.map strv) : es.toList.map (·.key) = m.map (fun p => Value.string p.1) := by
  have := congrArg (List.map Prod.fst) h
  simpa [List.map_map, Function.comp_def, entv, strv] using this

theorem MapL.nodup {w : World} {b : Nat} {m : List (ByteArray × Value)} (h : MapL w b m) : (m.map (·.1)).Nodup := by
  obtain ⟨es, clock, hb, hs, he⟩ := h
  have h3 := hs.2.2
  rw [entv_keys he] at h3
  have e : m.map (fun p => Value.string p.1) = (m.map (·.1)).map Value.string := by simp [List.map_map, Function.comp_def]
  rw [e] at h3
  exact List.Pairwise.of_map Value.string (fun a b hab e => hab (by rw [e])) h3

theorem entv_isKey {es : Array MapEntry} {m : List (ByteArray × Value)} (h : es.toList.map entv = m.map strv) : ∀ x ∈ es.toList, IsKey .string x.key := by
  intro x hx
  have : x.key ∈ es.toList.map (·.key) := List.mem_map.2 ⟨x, hx, rfl⟩
  rw [entv_keys h] at this
  obtain ⟨p, _, e⟩ := List.mem_map.1 this
  rw [← e]
  trivial

theorem entv_at {es : Array MapEntry} {m : List (ByteArray × Value)} (h : es.toList.map entv = m.map strv) {j : Nat} {e : MapEntry} (hj : es.toList[j]? = some e) : ∃ p, m[j]? = some p ∧ e.key = .string p.1 ∧ e.val = p.2 := by
  have := congrArg (·[j]?) h
  simp only [List.getElem?_map, hj, Option.map_some] at this
  cases hm : m[j]? with
  | none => rw [hm] at this; cases this
  | some p =>
    rw [hm] at this
    simp only [Option.map_some, Option.some.injEq, entv, strv, Prod.mk.injEq] at this
    exact ⟨p, rfl, this.1, this.2⟩

theorem mhas_iff {m : List (ByteArray × Value)} {k : ByteArray} : mhas m k = true ↔ k ∈ m.map (·.1) := by
  simp [mhas, List.any_eq_true]

theorem mget_some {m : List (ByteArray × Value)} (hn : (m.map (·.1)).Nodup) {j : Nat} {p : ByteArray × Value} (hj : m[j]? = some p) : mget m p.1 = some p.2 := by
  induction m generalizing j with
  | nil => simp at hj
  | cons q m ih =>
    simp only [List.map_cons, List.nodup_cons] at hn
    cases j with
    | zero =>
      simp only [List.getElem?_cons_zero, Option.some.injEq] at hj
      subst hj
      simp [mget]
    | succ j =>
      simp only [List.getElem?_cons_succ] at hj
      have hmem : p.1 ∈ m.map (·.1) := List.mem_map.2 ⟨p, List.mem_of_getElem? hj, rfl⟩
      have hne : q.1 ≠ p.1 := fun e => hn.1 (e ▸ hmem)
      have := ih hn.2 hj
      unfold mget at this ⊢
      rw [List.find?_cons, show decide (q.1 = p.1) = false by simpa using hne]
      exact this

theorem mget_none {m : List (ByteArray × Value)} {k : ByteArray} : mget m k = none ↔ k ∉ m.map (·.1) := by
  simp only [mget, Option.map_eq_none_iff, List.find?_eq_none, decide_eq_true_eq, List.mem_map, not_exists, not_and]

/-- What a look-up finds. -/
theorem MapL.find {P : Program} {w : World} {m : List (ByteArray × Value)} {K : TypeId} (hK : P.underlying K = some .string) (k : ByteArray) {es : Array MapEntry} {clock : Nat} (_hs : Stamped es clock) (he : es.toList.map entv = m.map strv) :
    ((Instr.findKey K (.string k) es.toList).run P w = .ok none w ∧ k ∉ m.map (·.1)) ∨
    ∃ (j : Nat) (e : MapEntry) (p : ByteArray × Value), (Instr.findKey K (.string k) es.toList).run P w = .ok (some (j, e.val)) w ∧ es.toList[j]? = some e ∧ m[j]? = some p ∧ p.1 = k ∧ e.val = p.2 := by
  rcases findNow_spec (d := .string) (k := .string k) trivial es.toList 0 (entv_isKey he) with ⟨h1, h2⟩ | ⟨j, e, h1, h2, h3⟩
  · refine .inl ⟨run_findKey hK h1, ?_⟩
    intro hm
    have : Value.string k ∈ es.toList.map (·.key) := by
      rw [entv_keys he]
      obtain ⟨p, hp, e⟩ := List.mem_map.1 hm
      exact List.mem_map.2 ⟨p, hp, by rw [e]⟩
    obtain ⟨x, hx, e⟩ := List.mem_map.1 this
    exact h2 x hx e
  · obtain ⟨p, hp, e1, e2⟩ := entv_at he h2
    refine .inr ⟨j, e, p, by simpa using run_findKey hK h1, h2, hp, ?_, e2⟩
    rw [h3] at e1
    cases e1
    rfl

theorem MapL.lookup {P : Program} {w : World} {b : Nat} {m : List (ByteArray × Value)} (h : MapL w b m) {t K E : TypeId} (ht : P.underlying t = some (.map K E)) (hK : P.underlying K = some .string) {z : Value} (hz : (zeroValue E).run P w = .ok z w) (k : ByteArray) (ok : Bool) :
    (Instr.lookup t (.map (some b)) (.string k) ok).run P w = .ok (if ok then .tuple #[(mget m k).getD z, .bool (mhas m k)] else (mget m k).getD z) w := by
  have hn := h.nodup
  obtain ⟨es, clock, hb, hs, he⟩ := h
  simp only [Instr.lookup, Sem.run_bind, run_underlying ht, Result.andThen, MapKept.run_getObj_map hb, Sem.run_pure]
  have hck : (Instr.checkKey es.isEmpty 10000 K (.string k)).run P w = .ok () w := run_checkKey hK (by trivial) _ _
  simp only [hck]
  rcases MapL.find (P := P) (w := w) (m := m) hK k hs he with ⟨h1, h2⟩ | ⟨j, e, p, h1, h2, h3, h4, h5⟩
  · have e1 : mget m k = none := mget_none.2 h2
    have e2 : mhas m k = false := by
      cases hh : mhas m k
      · rfl
      · exact absurd (mhas_iff.1 hh) h2
    simp only [h1, hz, e1, e2, Option.getD_none, Sem.run_bind, Sem.run_pure, Result.andThen]
  · have e1 : mget m k = some e.val := by rw [h5, ← h4]; exact mget_some hn h3
    have e2 : mhas m k = true := mhas_iff.2 (h4 ▸ List.mem_map.2 ⟨p, List.mem_of_getElem? h3, rfl⟩)
    simp only [h1, e1, e2, Option.getD_some]
    cases ok <;> rfl

theorem lookup_nil {P : Program} {w : World} {t K E : TypeId} (ht : P.underlying t = some (.map K E)) (hK : P.underlying K = some .string) {z : Value} (hz : (zeroValue E).run P w = .ok z w) (k : ByteArray) (ok : Bool) :
    (Instr.lookup t (.map none) (.string k) ok).run P w = .ok (if ok then .tuple #[z, .bool false] else z) w := by
  have hck : (Instr.checkKey true 10000 K (.string k)).run P w = .ok () w := run_checkKey hK (by trivial) _ _
  have hfk : (Instr.findKey K (.string k) []).run P w = .ok none w := run_findKey hK (by simp [Instr.findNow])
  simp only [Instr.lookup, Sem.run_bind, run_underlying ht, Result.andThen, Sem.run_pure, Array.isEmpty_empty, hck, hfk, hz]

theorem MapL.len {P : Program} {w : World} {b : Nat} {m : List (ByteArray × Value)} (h : MapL w b m) {t K E : TypeId} (ht : P.underlying t = some (.map K E)) (ty : TypeId) :
    (Builtin.len_ #[t] ty #[.map (some b)]).run P w = .ok (.int .i64 m.length) w := by
  obtain ⟨es, clock, hb, hs, he⟩ := h
  have hl : es.size = m.length := by have := congrArg List.length he; simpa using this
  simp [Builtin.len_, run_underlying ht, Result.andThen, MapKept.run_getObj_map hb, hl, goInt]

theorem map_modify_strv {m : List (ByteArray × Value)} (hn : (m.map (·.1)).Nodup) {j : Nat} {p : ByteArray × Value} (hj : m[j]? = some p) (v : Value) :
    m.map (fun q => if q.1 = p.1 then (p.1, v) else q) = m.modify j (fun q => (q.1, v)) := by
  induction m generalizing j with
  | nil => simp at hj
  | cons q m ih =>
    simp only [List.map_cons, List.nodup_cons] at hn
    cases j with
    | zero =>
      simp only [List.getElem?_cons_zero, Option.some.injEq] at hj
      subst hj
      simp only [List.map_cons, if_true, List.modify_zero_cons, List.cons.injEq, true_and]
      conv => rhs; rw [← List.map_id m]
      refine List.map_congr_left fun x hx => ?_
      rw [if_neg (fun (e : x.1 = q.1) => hn.1 (e ▸ List.mem_map.2 ⟨x, hx, rfl⟩))]
      rfl
    | succ j =>
      simp only [List.getElem?_cons_succ] at hj
      have hmem : p.1 ∈ m.map (·.1) := List.mem_map.2 ⟨p, List.mem_of_getElem? hj, rfl⟩
      have hne : q.1 ≠ p.1 := fun e => hn.1 (e ▸ hmem)
      simp only [List.map_cons, hne, if_false, List.modify_succ_cons, List.cons.injEq, true_and]
      exact ih hn.2 hj

/-- m[k] = v -/
theorem MapL.update {P : Program} {w : World} {b : Nat} {m : List (ByteArray × Value)} (h : MapL w b m) {t K E : TypeId} (ht : P.underlying t = some (.map K E)) (hK : P.underlying K = some .string) (k : ByteArray) (v : Value) :
    ∃ w', (Instr.mapUpdate t (.map (some b)) (.string k) v).run P w = .ok () w' ∧ MapL w' b (mput m k v) ∧ w.grownBy w' (some b) ∧ w'.heap.size = w.heap.size := by
  have hn := h.nodup
  obtain ⟨es, clock, hb, hs, he⟩ := h
  have hck : (Instr.checkKey false 10000 K (.string k)).run P w = .ok () w := run_checkKey hK (by trivial) _ _
  have hgr : ∀ o : Obj, w.grownBy (setBlock w b o) (some b) := fun o => ⟨rfl, rfl, rfl, by simp [setBlock], fun i _ hi => ChangeMaps.heap_setBlock_other hb _ (fun e => hi (by rw [e]))⟩
  have hsz : ∀ o : Obj, (setBlock w b o).heap.size = w.heap.size := fun o => by simp [setBlock]
  rcases MapL.find (P := P) (w := w) (m := m) hK k hs he with ⟨h1, h2⟩ | ⟨j, e, p, h1, h2, h3, h4, h5⟩
  · refine ⟨setBlock w b (.map (es.push { key := .string k, val := v, born := clock }) (clock + 1)), ?_, ⟨_, _, ChangeMaps.heap_setBlock_same hb _, ?_, ?_⟩, hgr _, hsz _⟩
    · simp only [Instr.mapUpdate, Sem.run_bind, run_underlying ht, Result.andThen, MapKept.run_getObj_map hb, hck, h1, run_setObj_map _ hb]
      rfl
    · refine stamped_push hs fun x hx e => h2 ?_
      have : x.key ∈ es.toList.map (·.key) := List.mem_map.2 ⟨x, hx, rfl⟩
      rw [entv_keys he] at this
      obtain ⟨q, hq, e'⟩ := List.mem_map.1 this
      rw [e] at e'
      cases e'
      exact List.mem_map.2 ⟨q, hq, rfl⟩
    · have e2 : mhas m k = false := by
        cases hh : mhas m k
        · rfl
        · exact absurd (mhas_iff.1 hh) h2
      simp [mput, e2, he, entv, strv]
  · have hj : es[j]? = some e := by simpa using h2
    have hkey : e.key = .string k := by
      obtain ⟨p', hp', e1, _⟩ := entv_at he h2
      rw [h3] at hp'
      cases hp'
      rw [e1, h4]
    refine ⟨setBlock w b (.map (es.modify j fun e => { e with key := .string k, val := v }) clock), ?_, ⟨_, _, ChangeMaps.heap_setBlock_same hb _, ?_, ?_⟩, hgr _, hsz _⟩
    · have hst : (Instr.keyThatStays (.string k) (.string k)).run P w = .ok (.string k) w := run_keyThatStays (d := .string) trivial
      simp only [Instr.mapUpdate, Sem.run_bind, run_underlying ht, Result.andThen, MapKept.run_getObj_map hb, hck, h1, hj, Option.map_some, Option.getD_some, hkey, hst, run_setObj_map _ hb]
      rfl
    · refine stamped_modify hs j _ (fun _ _ => rfl) (fun x _ hx => ?_)
      rw [hj] at hx
      cases hx
      exact hkey.symm
    · have e2 : mhas m k = true := mhas_iff.2 (h4 ▸ List.mem_map.2 ⟨p, List.mem_of_getElem? h3, rfl⟩)
      subst h4
      simp only [mput, e2, if_true]
      rw [map_modify_strv hn h3]
      apply List.ext_getElem?
      intro i
      have hi := congrArg (·[i]?) he
      simp only [List.getElem?_map, Array.getElem?_toList] at hi
      simp only [List.getElem?_map, Array.getElem?_toList, Array.getElem?_modify, List.getElem?_modify]
      by_cases hij : j = i
      · subst hij
        simp [hj, h3, entv, strv]
      · simp only [hij, if_false]
        simpa using hi

theorem mdel_eq_eraseIdx {m : List (ByteArray × Value)} (hn : (m.map (·.1)).Nodup) {j : Nat} {p : ByteArray × Value} (hj : m[j]? = some p) : mdel m p.1 = m.eraseIdx j := by
  induction m generalizing j with
  | nil => simp at hj
  | cons q m ih =>
    simp only [List.map_cons, List.nodup_cons] at hn
    cases j with
    | zero =>
      simp only [List.getElem?_cons_zero, Option.some.injEq] at hj
      subst hj
      simp only [mdel, List.filter_cons, ne_eq, not_true_eq_false, decide_false, Bool.false_eq_true, if_false, List.eraseIdx_zero, List.tail_cons]
      exact List.filter_eq_self.2 fun x hx => by
        have : x.1 ≠ q.1 := fun (e : x.1 = q.1) => hn.1 (e ▸ List.mem_map.2 ⟨x, hx, rfl⟩)
        simpa using this
    | succ j =>
      simp only [List.getElem?_cons_succ] at hj
      have hmem : p.1 ∈ m.map (·.1) := List.mem_map.2 ⟨p, List.mem_of_getElem? hj, rfl⟩
      have hne : q.1 ≠ p.1 := fun e => hn.1 (e ▸ hmem)
      have := ih hn.2 hj
      simp only [mdel] at this ⊢
      rw [List.filter_cons, if_pos (by simpa using hne), List.eraseIdx_cons_succ, this]

theorem mdel_none {m : List (ByteArray × Value)} {k : ByteArray} (h : k ∉ m.map (·.1)) : mdel m k = m :=
  List.filter_eq_self.2 fun x hx => by
    have : x.1 ≠ k := fun e => h (e ▸ List.mem_map.2 ⟨x, hx, rfl⟩)
    simpa using this

theorem map_eraseIdx {α β : Type} (f : α → β) : ∀ (l : List α) (j : Nat), (l.eraseIdx j).map f = (l.map f).eraseIdx j
  | [], _ => by simp
  | _ :: l, 0 => by simp
  | x :: l, j + 1 => by simp [map_eraseIdx f l j]

/-- delete(m, k) -/
theorem MapL.delete {P : Program} {w : World} {b : Nat} {m : List (ByteArray × Value)} (h : MapL w b m) {t K E : TypeId} (ht : P.underlying t = some (.map K E)) (hK : P.underlying K = some .string) (k : ByteArray) (ty : TypeId) :
    ∃ w', (Builtin.delete_ #[t, K] ty #[.map (some b), .string k]).run P w = .ok (.tuple #[]) w' ∧ MapL w' b (mdel m k) ∧ w.grownBy w' (some b) ∧ w'.heap.size = w.heap.size := by
  have hn := h.nodup
  obtain ⟨es, clock, hb, hs, he⟩ := h
  have hck : ∀ e, (Instr.checkKey e 10000 K (.string k)).run P w = .ok () w := fun e => run_checkKey hK (by trivial) _ _
  have hgr : ∀ o : Obj, w.grownBy (setBlock w b o) (some b) := fun o => ⟨rfl, rfl, rfl, by simp [setBlock], fun i _ hi => ChangeMaps.heap_setBlock_other hb _ (fun e => hi (by rw [e]))⟩
  have hsz : ∀ o : Obj, (setBlock w b o).heap.size = w.heap.size := fun o => by simp [setBlock]
  rcases MapL.find (P := P) (w := w) (m := m) hK k hs he with ⟨h1, h2⟩ | ⟨j, e, p, h1, h2, h3, h4, h5⟩
  · refine ⟨setBlock w b (.map es clock), ?_, ⟨_, _, ChangeMaps.heap_setBlock_same hb _, hs, ?_⟩, hgr _, hsz _⟩
    · simp [Builtin.delete_, run_underlying ht, Result.andThen, MapKept.run_getObj_map hb, hck, h1, run_setObj_map _ hb, setBlock]
    · rw [mdel_none h2]; exact he
  · have hlt : j < es.size := by
      have := (List.getElem?_eq_some_iff.1 h2).1
      simpa using this
    refine ⟨setBlock w b (.map (es.eraseIdxIfInBounds j) clock), ?_, ⟨_, _, ChangeMaps.heap_setBlock_same hb _, stamped_erase hs j, ?_⟩, hgr _, hsz _⟩
    · simp [Builtin.delete_, run_underlying ht, Result.andThen, MapKept.run_getObj_map hb, hck, h1, run_setObj_map _ hb, setBlock]
    · subst h4
      rw [mdel_eq_eraseIdx hn h3]
      unfold Array.eraseIdxIfInBounds
      rw [dif_pos hlt, Array.toList_eraseIdx]
      rw [map_eraseIdx, map_eraseIdx, he]

theorem delete_nil {P : Program} {w : World} {t K E : TypeId} (ht : P.underlying t = some (.map K E)) (hK : P.underlying K = some .string) (k : ByteArray) (ty : TypeId) :
    (Builtin.delete_ #[t, K] ty #[.map none, .string k]).run P w = .ok (.tuple #[]) w := by
  have hck : ∀ e, (Instr.checkKey e 10000 K (.string k)).run P w = .ok () w := fun e => run_checkKey hK (by trivial) _ _
  simp [Builtin.delete_, run_underlying ht, Result.andThen, hck]

/-! ### lists of texts -/
def inB (l : List ByteArray) (s : ByteArray) : Bool := l.any (fun x => decide (x = s))
theorem inB_iff {l : List ByteArray} {s : ByteArray} : inB l s = true ↔ s ∈ l := by simp [inB]

end Go.Proofs.Ytdogmcpmlglkfaa
