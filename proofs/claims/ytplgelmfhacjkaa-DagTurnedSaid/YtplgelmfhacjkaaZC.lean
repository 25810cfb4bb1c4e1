/- Package dag walked: New, Has, Len, Parents, Add, Heads, Past, Ahead. -/
import Derived.Test.YtplgelmfhacjkaaZB
import Derived.Deep.QuietTactic
import Derived.BigQuiet
import Derived.Lib.Hide

namespace Go.Proofs.Ytplgelmfhacjkaa
open Go.RowKit Go.Proofs.YtplgelmfhacjkaaW.PrintWords

/-- The two maps of a dag. -/
structure DMaps (w : World) (a b : Nat) (G : List Ent) (m k : List (ByteArray × Value)) : Prop where
  ma : MapL w a m
  mb : MapL w b k
  ne : a ≠ b
  keys : m.map (·.1) = idsG G
  rows : ∀ (i : Nat) (e : Ent), G[i]? = some e → ∃ v, m[i]? = some (e.1, v) ∧ w.ownsRow 0 9 1 v e.2.length (e.2.map Value.string)
  kids : ∀ id, (mget k id).getD (.int .i64 0) = .int .i64 (cntG G id)
  ok : GOk G
  small : ∀ e ∈ G, e.2.length ≤ 1000000

def DagRep (w : World) (p a b : Nat) (G : List Ent) : Prop :=
  w.heap[p]? = some (.cells #[.map (some a), .map (some b)] 57) ∧ ∃ m k, DMaps w a b G m k

theorem own_move {w w' : World} {base : Nat} {e : TypeId} {size n : Nat} {v : Value} {xs : List Value} (h : w.ownsRow base e size v n xs) (hm : ∀ g cur, v.ownBlock = some g → w.heap[g]? = some (.cells cur e (0, 0)) → w'.heap[g]? = w.heap[g]?) : w'.ownsRow base e size v n xs := by
  refine ⟨h.1, ?_⟩
  rcases h.2 with hn | ⟨g, cap, cur, rfl, hb, hgg, rest⟩
  · exact .inl hn
  · exact .inr ⟨g, cap, cur, rfl, hb, (hm g cur rfl hgg).trans hgg, rest⟩

theorem DMaps.move {w w' : World} {a b : Nat} {G : List Ent} {m k : List (ByteArray × Value)} (h : DMaps w a b G m k) (ha : w'.heap[a]? = w.heap[a]?) (hb : w'.heap[b]? = w.heap[b]?) (hr : ∀ (g : Nat) (cur : Array Value), w.heap[g]? = some (Obj.cells cur 9 (0, 0)) → w'.heap[g]? = w.heap[g]?) : DMaps w' a b G m k :=
  ⟨h.ma.move ha, h.mb.move hb, h.ne, h.keys, fun i e hi => by
    obtain ⟨v, h1, h2⟩ := h.rows i e hi
    exact ⟨v, h1, own_move h2 fun g cur _ hg => hr g cur hg⟩, h.kids, h.ok, h.small⟩

theorem DMaps.below {w w' : World} {a b : Nat} {G : List Ent} {m k : List (ByteArray × Value)} (h : DMaps w a b G m k) (hb : Below w.heap.size w w') : DMaps w' a b G m k :=
  h.move (hb.block a h.ma.lt) (hb.block b h.mb.lt) fun g cur hg => hb.block g (Array.getElem?_eq_some_iff.1 hg).1

theorem DagRep.below {w w' : World} {p a b : Nat} {G : List Ent} (h : DagRep w p a b G) (hb : Below w.heap.size w w') : DagRep w' p a b G := by
  obtain ⟨hp, m, k, hm⟩ := h
  exact ⟨(hb.block p (Array.getElem?_eq_some_iff.1 hp).1).trans hp, m, k, hm.below hb⟩

/-- Blocks of other dags' maps may turn. -/
theorem DagRep.fr {w w' : World} {p a b : Nat} {G : List Ent} {S : Nat → Prop} (h : DagRep w p a b G) (hf : Fr S w w') (hS : ∀ k, S k → k ≠ a ∧ k ≠ b ∧ ∀ c t f, w.heap[k]? ≠ some (.cells c t f)) : DagRep w' p a b G := by
  obtain ⟨hp, m, k, hm⟩ := h
  have hlt := (Array.getElem?_eq_some_iff.1 hp).1
  refine ⟨(hf.block p hlt fun hs => (hS p hs).2.2 _ _ _ hp).trans hp, m, k, hm.move ?_ ?_ ?_⟩
  · exact hf.block a hm.ma.lt fun hs => (hS a hs).1 rfl
  · exact hf.block b hm.mb.lt fun hs => (hS b hs).2.1 rfl
  · exact fun g cur hg => hf.block g (Array.getElem?_eq_some_iff.1 hg).1 fun hs => (hS g hs).2.2 _ _ _ hg

theorem DagRep.ok {w : World} {p a b : Nat} {G : List Ent} (h : DagRep w p a b G) : GOk G := by
  obtain ⟨_, _, _, hm⟩ := h
  exact hm.ok

theorem DMaps.mlen {w : World} {a b : Nat} {G : List Ent} {m k : List (ByteArray × Value)} (h : DMaps w a b G m k) : m.length = G.length := by
  have := congrArg List.length h.keys
  simpa [idsG] using this

theorem DMaps.has {w : World} {a b : Nat} {G : List Ent} {m k : List (ByteArray × Value)} (h : DMaps w a b G m k) (id : ByteArray) : mhas m id = hasG G id := by
  rw [Bool.eq_iff_iff, mhas_iff, hasG_iff, h.keys]

/-- What the map gives for an id: the row of its parents. -/
theorem DMaps.get {w : World} {a b : Nat} {G : List Ent} {m k : List (ByteArray × Value)} (h : DMaps w a b G m k) (id : ByteArray) : w.ownsRow 0 9 1 ((mget m id).getD (.slice none 0 0)) (parG G id).length ((parG G id).map Value.string) := by
  by_cases hid : id ∈ idsG G
  · obtain ⟨i, e, hi, rfl⟩ := mem_idsG hid
    obtain ⟨v, h1, h2⟩ := h.rows i e hi
    have hg := mget_some (m := m) (by rw [h.keys]; exact h.ok.nodup) h1
    rw [show mget m e.1 = some v from hg, parG_at h.ok.nodup hi]
    exact h2
  · rw [mget_none.2 (by rw [h.keys]; exact hid), parG_none hid]
    exact own_none _ _ _ _

theorem DMaps.par_small {w : World} {a b : Nat} {G : List Ent} {m k : List (ByteArray × Value)} (h : DMaps w a b G m k) (id : ByteArray) : (parG G id).length ≤ 1000000 := by
  by_cases hid : id ∈ idsG G
  · obtain ⟨i, e, hi, rfl⟩ := mem_idsG hid
    rw [parG_at h.ok.nodup hi]
    exact h.small e (List.mem_of_getElem? hi)
  · rw [parG_none hid]
    simp

theorem box2 {w : World} {b : Nat} {x y : Value} {t : TypeId} (h : w.heap[b]? = some (.cells #[x, y] t)) : w.cell? ⟨b, 0, none⟩ = some x ∧ w.cell? ⟨b, 1, none⟩ = some y ∧ (∀ o, w.frozen? ⟨b, o, none⟩ = false) := by
  refine ⟨by simp [World.cell?, h], by simp [World.cell?, h], fun o => by simp [World.frozen?, h]⟩

theorem zero_strs (w : World) : (zeroValue 25).run Try.prog w = .ok (.slice none 0 0) w := Try.zeroValue25 w

set_option maxHeartbeats 1000000 in
theorem new_any (w : World) : Calls Try.prog 10 #[] w fun e w' => ∃ p a b, e = .returned (.pointer (some ⟨p, 0, none⟩)) ∧ w.heap.size ≤ p ∧ w.heap.size ≤ a ∧ w.heap.size ≤ b ∧ DagRep w' p a b [] ∧ Below w.heap.size w w' := by
  have hmm := @run_makeMap Try.prog
  go_enter Try.func10, Try.ntmps10
  go_wp2
  go_ret
  have h1 := heap_alloc_new ((w.alloc (.map #[] 0)).alloc (.map #[] 0)) (.cells #[.map (some w.heap.size), .map (some (w.heap.size + 1))] 57)
  have h2 := MapL.made w
  have h3 := MapL.made (w.alloc (.map #[] 0))
  simp only [asz] at h1 h3 ⊢
  refine ⟨w.heap.size + 1 + 1, w.heap.size, w.heap.size + 1, rfl, by omega, by omega, by omega, ⟨h1, [], [], ⟨(h2.alloc _).alloc _, h3.alloc _, by omega, rfl, by simp, fun id => by simp [mget, cntG], GOk.nil, by simp⟩⟩, ?_⟩
  exact (((Below.refl _ w).alloc (Nat.le_refl _) _).alloc (by simp) _).alloc (by simp; omega) _

theorem has_none (id : ByteArray) (w : World) : Calls Try.prog 22 #[.pointer none, .string id] w fun e w' => e = .returned (.bool false) ∧ w' = w := by
  go_enter Try.func22, Try.ntmps22
  go_wp2
  go_ret
  exact ⟨rfl, rfl⟩

theorem hasD_any {w : World} {p a b : Nat} {G : List Ent} (h : DagRep w p a b G) (id : ByteArray) : Calls Try.prog 22 #[.pointer (some ⟨p, 0, none⟩), .string id] w fun e w' => e = .returned (.bool (hasG G id)) ∧ w' = w := by
  obtain ⟨hp, m, k, hm⟩ := h
  obtain ⟨c0, c1, cf⟩ := box2 hp
  have HM := Lib.hid hm
  have HH := Lib.hid (hm.has id)
  clear hp hm
  go_enter Try.func22, Try.ntmps22
  go_wp2_with (at_lookup; refine wpList_lookup_L _ rfl _ _ 54 true rfl 9 25 Try.underlying54 Try.underlying9 _ (zero_strs _) a _ rfl HM.out.ma id rfl ?_; rw [HH.out])
  go_ret
  exact ⟨rfl, rfl⟩

theorem len_none (w : World) : Calls Try.prog 13 #[.pointer none] w fun e w' => e = .returned (.int .i64 0) ∧ w' = w := by
  go_enter Try.func13, Try.ntmps13
  go_wp2
  go_ret
  exact ⟨rfl, rfl⟩

theorem lenD_any {w : World} {p a b : Nat} {G : List Ent} (h : DagRep w p a b G) : Calls Try.prog 13 #[.pointer (some ⟨p, 0, none⟩)] w fun e w' => e = .returned (.int .i64 G.length) ∧ w' = w := by
  obtain ⟨hp, m, k, hm⟩ := h
  obtain ⟨c0, c1, cf⟩ := box2 hp
  have HM := Lib.hid hm
  have HH := Lib.hid hm.mlen
  clear hp hm
  go_enter Try.func13, Try.ntmps13
  go_wp2_with (at_len; refine wpList_len_L _ rfl _ 54 rfl 9 25 Try.underlying54 _ _ rfl HM.out.ma ?_; rw [HH.out])
  go_ret
  exact ⟨rfl, rfl⟩

theorem parents_none (id : ByteArray) (w : World) : Calls Try.prog 25 #[.pointer none, .string id] w fun e w' => e = .returned (.slice none 0 0) ∧ w' = w := by
  go_enter Try.func25, Try.ntmps25
  go_wp2
  go_ret
  exact ⟨rfl, rfl⟩

theorem parentsD_any {w : World} {p a b : Nat} {G : List Ent} (h : DagRep w p a b G) (id : ByteArray) : Calls Try.prog 25 #[.pointer (some ⟨p, 0, none⟩), .string id] w fun e w' => ∃ v, e = .returned v ∧ w'.ownsRow w.heap.size 9 1 v (parG G id).length ((parG G id).map Value.string) ∧ Below w.heap.size w w' := by
  obtain ⟨hp, m, k, hm⟩ := h
  obtain ⟨c0, c1, cf⟩ := box2 hp
  have HM := Lib.hid hm
  have HC := Lib.hid (clone_own (hm.get id) (hm.par_small id))
  clear hp hm
  go_enter Try.func25, Try.ntmps25
  go_wp2_with (first
    | (at_lookup; refine wpList_lookup_L _ rfl _ _ 54 false rfl 9 25 Try.underlying54 Try.underlying9 _ (zero_strs _) a _ rfl HM.out.ma id rfl ?_)
    | (go_at_call 39; refine HC.out.mono ?_; rintro e w1 ⟨v1, rfl, ho, hb⟩; have HO := Lib.hid ho; have HB := Lib.hid hb; clear ho hb))
  go_ret
  exact ⟨_, rfl, HO.out, HB.out⟩

end Go.Proofs.Ytplgelmfhacjkaa

namespace Go.Proofs.Ytplgelmfhacjkaa
open Go.RowKit Go.Proofs.YtplgelmfhacjkaaW.PrintWords

theorem mget_map {k : ByteArray} {v : Value} {x : ByteArray} : ∀ {m : List (ByteArray × Value)}, (x = k → k ∈ m.map (·.1)) →
    ((m.map (fun p => if p.1 = k then (k, v) else p)).find? (fun p => decide (p.1 = x))).map (·.2) = if x = k then some v else (m.find? (fun p => decide (p.1 = x))).map (·.2)
  | [], h => by
    by_cases e : x = k
    · have := h e
      simp at this
    · simp [e]
  | p :: m, h => by
    rw [List.map_cons]
    by_cases hp : p.1 = x
    · by_cases e : x = k
      · have hk : p.1 = k := hp.trans e
        rw [if_pos hk, List.find?_cons_of_pos (by simp [e]), if_pos e]
        rfl
      · have hk : ¬ p.1 = k := fun h => e (hp ▸ h)
        rw [if_neg hk, List.find?_cons_of_pos (by simp [hp]), if_neg e, List.find?_cons_of_pos (by simp [hp])]
    · have hf : ¬ ((if p.1 = k then (k, v) else p) : ByteArray × Value).1 = x := by
        by_cases hk : p.1 = k
        · rw [if_pos hk]
          exact fun e => hp (hk.trans e)
        · rw [if_neg hk]
          exact hp
      rw [List.find?_cons_of_neg (by simpa using hf), List.find?_cons_of_neg (by simpa using hp)]
      refine mget_map fun e => ?_
      have := h e
      simp only [List.map_cons, List.mem_cons] at this
      rcases this with e' | e'
      · exact absurd (e.trans e').symm hp
      · exact e'

theorem mget_mput (m : List (ByteArray × Value)) (k : ByteArray) (v : Value) (x : ByteArray) : mget (mput m k v) x = if x = k then some v else mget m x := by
  unfold mput
  by_cases hk : mhas m k = true
  · rw [if_pos hk]
    exact mget_map fun _ => mhas_iff.1 hk
  · rw [if_neg hk]
    have hn : k ∉ m.map (·.1) := fun h => hk (mhas_iff.2 h)
    unfold mget
    rw [List.find?_append]
    by_cases e : x = k
    · subst e
      have := mget_none.2 hn
      unfold mget at this
      rw [Option.map_eq_none_iff] at this
      rw [this, if_pos rfl]
      simp
    · rw [if_neg e]
      have : ([(k, v)] : List (ByteArray × Value)).find? (fun p => decide (p.1 = x)) = none := by simp; exact fun h => e h.symm
      rw [this, Option.or_none]

theorem mput_new {m : List (ByteArray × Value)} {k : ByteArray} (v : Value) (h : k ∉ m.map (·.1)) : mput m k v = m ++ [(k, v)] := by
  unfold mput
  rw [if_neg fun h' => h (mhas_iff.1 h')]

theorem cnt_le (G : List Ent) (id : ByteArray) : cntG G id ≤ G.length := List.length_filter_le _ _

/-- How often x stands in a list. -/
def onB (l : List ByteArray) (x : ByteArray) : Nat := if inB l x then 1 else 0

theorem onB_snoc {l : List ByteArray} {y : ByteArray} (h : y ∉ l) (x : ByteArray) : onB (l ++ [y]) x = if x = y then onB l x + 1 else onB l x := by
  unfold onB
  by_cases e : x = y
  · subst e
    have h1 : inB (l ++ [x]) x = true := inB_iff.2 (by simp)
    have h2 : inB l x = false := by
      cases hh : inB l x
      · rfl
      · exact absurd (inB_iff.1 hh) h
    simp [h1, h2]
  · rw [if_neg e]
    have : inB (l ++ [y]) x = inB l x := by
      rw [Bool.eq_iff_iff, inB_iff, inB_iff, List.mem_append, List.mem_singleton]
      exact ⟨fun h => h.resolve_right e, .inl⟩
    rw [this]

theorem cnt_snoc (G : List Ent) (id : ByteArray) (l : List ByteArray) (x : ByteArray) : cntG (G ++ [(id, l)]) x = cntG G x + onB l x := by
  unfold cntG onB
  rw [List.filter_append, List.length_append]
  congr 1
  by_cases h : inB l x = true <;> simp [h]

theorem wrapN {i : Nat} (h : i < 4611686018427387904) : IntKind.i64.wrap ((i : Int) + 1) = ((i + 1 : Nat) : Int) := (IntWalk.i64_in _ (by omega)).trans (by simp)

theorem add_none (id : ByteArray) (A : Option Addr) (n c : Nat) (w : World) : Calls Try.prog 12 #[.pointer none, .string id, .slice A n c] w fun e w' => e = .returned (.int .i64 1) ∧ w' = w := by
  go_enter Try.func12, Try.ntmps12
  go_wp2_with fail
  go_ret
  exact ⟨rfl, rfl⟩

theorem srising_nodup {l : List ByteArray} (h : SRising l) : l.Nodup :=
  List.Pairwise.imp (fun {a b} (h : ltS a b) (e : a = b) => ltS_irrefl a (by rw [← e] at h; exact h)) h

/-- What stands behind the sort and the compaction. -/
theorem srt_one {l r ps : List ByteArray} (h1 : SRising l) (h2 : ∀ x, x ∈ l ↔ x ∈ r) (h3 : r.Perm ps) : l = srt ps :=
  srising_eq h1 (srt_rising ps) fun x => (h2 x).trans ((h3.mem_iff).trans (srt_mem ps x).symm)

theorem cells_map {w : World} {p a : Nat} {c : Array Value} {t : TypeId} {f : Nat × Nat} {m : List (ByteArray × Value)} (h : w.heap[p]? = some (.cells c t f)) (hm : MapL w a m) : p ≠ a := by
  rintro rfl
  exact hm.not_cells h

theorem cell_map {w : World} {ad : Addr} {u : Value} {a : Nat} {m : List (ByteArray × Value)} (h : w.cell? ad = some u) (hm : MapL w a m) : ad.block ≠ a := by
  rintro rfl
  obtain ⟨es, clock, hb, _⟩ := hm
  simp [World.cell?, hb] at h

set_option maxHeartbeats 4000000 in
set_option maxRecDepth 100000 in
theorem addD_any {w : World} {p a b : Nat} {G : List Ent} (h : DagRep w p a b G) (id : ByteArray) {A : Option Addr} {c : Nat} {ps : List ByteArray} (hr : Kd.C Kd.string w A ps.length ps) (hc : ps.length ≤ c) (hl : ps.length ≤ 1000000) :
    Calls Try.prog 12 #[.pointer (some ⟨p, 0, none⟩), .string id, .slice A ps.length c] w fun e w' => e = .returned (.int .i64 (whyG G id ps)) ∧ DagRep w' p a b (addG G id ps) ∧ Fr (fun k => k = a ∨ k = b) w w' := by
  have HD := Lib.hid h
  have HR := Lib.hid hr
  have hml : id.size = 0 ↔ id = ⟨#[]⟩ := by
    constructor
    · intro e
      cases id with | mk d =>
      have : d.size = 0 := e
      rw [Array.size_eq_zero_iff] at this
      rw [this]
    · rintro rfl
      rfl
  clear h hr
  by_cases hid0 : id = ⟨#[]⟩
  · have HWY := Lib.hid (show whyG G id ps = 1 from by unfold whyG; rw [if_pos (.inl (hml.2 hid0))])
    subst hid0
    clear hml
    go_enter Try.func12, Try.ntmps12
    go_wp2_with fail
    go_ret
    exact ⟨(congrArg (fun n => Ending.returned (.int .i64 n)) HWY.out).symm, by unfold addG; rw [if_neg (by rw [HWY.out]; decide)]; exact HD.out, Fr.refl _ _⟩
  · have hid1 : ¬ id.toList = [] := by
      rw [ByteArray.toList_eq]
      intro e
      apply hid0
      cases id with | mk d =>
      have : d = #[] := by simpa using e
      rw [this]
    have hz0 : ¬ id.size = 0 := fun e => hid0 (hml.1 e)
    have hem : id.toList.isEmpty = false := by
      cases hh : id.toList with
      | nil => exact absurd hh hid1
      | cons x l => rfl
    clear hid1 hml hid0
    by_cases hbig : 64 < id.size
    · have hbig' : (64 : Int) < (id.size : Int) := by omega
      have HWY := Lib.hid (show whyG G id ps = 1 from by unfold whyG; rw [if_pos (.inr hbig)])
      go_enter Try.func12, Try.ntmps12
      go_wp2_with fail
      go_ret
      exact ⟨(congrArg (fun n => Ending.returned (.int .i64 n)) HWY.out).symm, by unfold addG; rw [if_neg (by rw [HWY.out]; decide)]; exact HD.out, Fr.refl _ _⟩
    · have hbig' : ¬ (64 : Int) < (id.size : Int) := by omega
      have hcl := hasD_any HD.out id
      cases hg : hasG G id with
      | true =>
        have HWY := Lib.hid (show whyG G id ps = 11 from by unfold whyG; rw [if_neg (by omega), if_pos hg])
        rw [hg] at hcl
        have HC := Lib.hid hcl
        clear hcl hg
        go_enter Try.func12, Try.ntmps12
        go_wp2_with (go_at_call 22; refine HC.out.mono ?_; rintro e w ⟨rfl, rfl⟩)
        go_ret
        exact ⟨(congrArg (fun n => Ending.returned (.int .i64 n)) HWY.out).symm, by unfold addG; rw [if_neg (by rw [HWY.out]; decide)]; exact HD.out, Fr.refl _ _⟩
      | false =>
        rw [hg] at hcl
        have HC := Lib.hid hcl
        have HL := Lib.hid (lenD_any HD.out)
        have HG := Lib.hid hg
        clear hcl hg
        by_cases hfull : 300 ≤ G.length
        · have HWY := Lib.hid (show whyG G id ps = 3 from by unfold whyG; rw [if_neg (by omega), if_neg (by rw [HG.out]; decide), if_pos hfull])
          go_enter Try.func12, Try.ntmps12
          go_wp2_with (first
            | (go_at_call 22; refine HC.out.mono ?_; rintro e w ⟨rfl, rfl⟩)
            | (go_at_call 13; refine HL.out.mono ?_; rintro e w ⟨rfl, rfl⟩))
          go_ret
          exact ⟨(congrArg (fun n => Ending.returned (.int .i64 n)) HWY.out).symm, by unfold addG; rw [if_neg (by rw [HWY.out]; decide)]; exact HD.out, Fr.refl _ _⟩
        · have hfull' : ¬ (300 : Int) ≤ (G.length : Int) := by omega
          go_enter Try.func12, Try.ntmps12
          go_upto_region 8 with (first
            | (go_at_call 22; refine HC.out.mono ?_; rintro e w ⟨rfl, rfl⟩)
            | (go_at_call 13; refine HL.out.mono ?_; rintro e w ⟨rfl, rfl⟩)
            | (go_at_call 33; refine (values_any _ _ _ _).mono ?_; rintro e w1 ⟨rfl, hw1⟩; have HW1 := Lib.hid hw1; clear hw1)
            | (go_at_call 32; rw [HW1.out]; refine (sortedVals_any hl HR.out).mono ?_; rintro e w2 ⟨v2, r2, rfl, hp2, hs2, ho2, hb2⟩; have HP2 := Lib.hid hp2; have HS2 := Lib.hid hs2; have HO2 := Lib.hid ho2; have HB2 := Lib.hid hb2; clear hp2 hs2 ho2 hb2))
          go_at_call 31
          refine (compact_any (ownsRow_weaken HO2.out (Nat.le_succ _)) HS2.out (by rw [HP2.out.length_eq]; exact hl) HB2.out.size).mono ?_
          rintro e w3 ⟨v3, l3, rfl, hs3, hm3, hl3, ho3, hb3⟩
          have HL3 := Lib.hid (srt_one hs3 hm3 HP2.out)
          have hn3 : l3.length ≤ 1000000 := by (have := HP2.out.length_eq; omega)
          have HO3 := Lib.hid ho3
          have HB3 := Lib.hid (HB2.out.trans hb3)
          clear hs3 hm3 ho3 hb3 hl3
          go_upto_region 8 with fail
          clear HO2 HB2 HS2 HP2 HW1
          obtain ⟨A3, c3, rfl, hc3, hr3, _⟩ := own_read HO3.out hn3
          have HR3 := Lib.hid hr3
          have HD3 := Lib.hid (HD.out.below HB3.out)
          have HND := Lib.hid (show l3.Nodup by rw [HL3.out]; exact srising_nodup (srt_rising ps))
          clear hr3 HC HL HR
          go_wp2_with fail
          go_loopw [9, 38] (fun _ iv wr => wr = w3 ∧ ∃ j : Nat, iv = .int .i64 j ∧ j ≤ l3.length ∧ ∀ i x, l3[i]? = some x → i < j → x ∈ idsG G) (fun _ iv _ => l3.length - (intOf iv).toNat)
          case atStart => exact ⟨rfl, 0, rfl, Nat.zero_le _, fun i x _ h => by omega⟩
          case round =>
            obtain ⟨hwr, j, rfl, hj, hall⟩ := hrel
            subst hwr
            by_cases hlt : j < l3.length
            · obtain ⟨ad, rfl, hcell⟩ := at_str HR3.out hlt
              have hcl := hasD_any HD3.out l3[j]
              have hwj := wrapN (i := j) (by omega)
              cases hg : hasG G l3[j] with
              | true =>
                rw [hg] at hcl
                have HC := Lib.hid hcl
                have HG2 := Lib.hid hg
                clear hcl hg
                go_wp2_with (go_at_call 22; refine HC.out.mono ?_; rintro e w4 ⟨rfl, hw4⟩; rw [hw4]; clear hw4)
                refine ⟨⟨by trivial, j + 1, rfl, by omega, fun i x hi hij => ?_⟩, by simp [intOf]; omega⟩
                by_cases hij' : i < j
                · exact hall i x hi hij'
                · obtain rfl : i = j := by omega
                  rw [List.getElem?_eq_getElem hlt] at hi
                  cases hi
                  exact hasG_iff.1 HG2.out
              | false =>
                rw [hg] at hcl
                have HC := Lib.hid hcl
                have HWY := Lib.hid (show whyG G id ps = 9 from by
                  unfold whyG
                  rw [if_neg (by omega), if_neg (by rw [HG.out]; decide), if_neg (by omega), if_neg]
                  intro ha
                  have hmem : l3[j] ∈ ps := (srt_mem ps _).1 (HL3.out ▸ List.getElem_mem hlt)
                  have := List.all_eq_true.1 ha _ hmem
                  rw [hg] at this
                  cases this)
                clear hcl hg
                go_wp2_with (go_at_call 22; refine HC.out.mono ?_; rintro e w4 ⟨rfl, hw4⟩; rw [hw4]; clear hw4)
                go_ret
                exact ⟨(congrArg (fun n => Ending.returned (.int .i64 n)) HWY.out).symm, by unfold addG; rw [if_neg (by rw [HWY.out]; decide)]; exact HD3.out, Fr.of_below HB3.out⟩
            · obtain rfl : j = l3.length := by omega
              have HWY := Lib.hid (show whyG G id ps = 0 from by
                unfold whyG
                rw [if_neg (by omega), if_neg (by rw [HG.out]; decide), if_neg (by omega), if_pos]
                refine List.all_eq_true.2 fun x hx => hasG_iff.2 ?_
                obtain ⟨i, hi⟩ := List.mem_iff_getElem?.1 (show x ∈ l3 by rw [HL3.out]; exact (srt_mem ps x).2 hx)
                exact hall i x hi (List.getElem?_eq_some_iff.1 hi).1)
              obtain ⟨hp3, m, k, hm⟩ := HD3.out
              obtain ⟨c0, c1, cf⟩ := box2 hp3
              have HM := Lib.hid hm
              have HP := Lib.hid hp3
              clear hp3 hm hall
              go_wp2_with (at_mapUpdate; refine wpList_mapUpdate_L _ rfl _ _ _ 54 rfl 9 25 Try.underlying54 Try.underlying9 a _ rfl HM.out.ma id (.slice A3 l3.length c3) rfl rfl ?_; intro w4 hm4 hg4 hs4; have HM4 := Lib.hid hm4; have HF4 := Lib.hid (Fr.of_grown hg4); have HS4 := Lib.hid hs4; clear hm4 hg4 hs4)
              have HF4' := Lib.hid (HF4.out.mono (T := fun k => k = a ∨ k = b) fun i _ h => .inl (Option.some.inj h))
              have HPA := Lib.hid (cells_map HP.out HM.out.ma)
              have HPB := Lib.hid (cells_map HP.out HM.out.mb)
              have HMB4 := Lib.hid (HM.out.mb.fr HF4.out (fun h => HM.out.ne (Option.some.inj h).symm))
              have HROWS := Lib.hid (fun (wq : World) (hf : Fr (fun k => k = a ∨ k = b) wr wq) (g : Nat) (cur : Array Value) (hg : wr.heap[g]? = some (Obj.cells cur 9 (0, 0))) =>
                hf.block g (Array.getElem?_eq_some_iff.1 hg).1 (fun h => h.elim (cells_map hg HM.out.ma) (cells_map hg HM.out.mb)))
              go_loopw [11, 55] (fun _ iv wq => ∃ (j : Nat) (k' : List (ByteArray × Value)), iv = .int .i64 j ∧ j ≤ l3.length ∧ MapL wq b k' ∧ (∀ x, (mget k' x).getD (.int .i64 0) = .int .i64 ((cntG G x + onB (l3.take j) x : Nat))) ∧ Fr (fun k => k = b) w4 wq) (fun _ iv _ => l3.length - (intOf iv).toNat)
              case atStart => exact ⟨0, k, rfl, Nat.zero_le _, HMB4.out, fun x => by rw [HM.out.kids x]; simp [onB, inB], Fr.refl _ _⟩
              case round =>
                obtain ⟨j, k', rfl, hj, hmq, hkq, hfq⟩ := hrel
                have HFQ' := Lib.hid (HF4'.out.trans (hfq.mono (T := fun k => k = a ∨ k = b) fun i _ h => .inr h) (fun i _ h => h))
                have HMQ := Lib.hid hmq
                have HKQ := Lib.hid hkq
                have HFQ := Lib.hid hfq
                have c1q := (HFQ'.out.cell (p := ⟨p, 1, none⟩) (Array.getElem?_eq_some_iff.1 HP.out).1 (fun h => h.elim HPA.out HPB.out)).trans c1
                clear hmq hkq hfq c0 c1 cf
                by_cases hlt : j < l3.length
                · obtain ⟨ad, rfl, hcell⟩ := at_str HR3.out hlt
                  have hcq := (HFQ'.out.cell (p := ad.add j) (World.block_lt_of_cell? _ _ hcell) (fun h => h.elim (cell_map hcell HM.out.ma) (cell_map hcell HM.out.mb))).trans hcell
                  have hwj := wrapN (i := j) (by omega)
                  have HKJ := Lib.hid (HKQ.out l3[j])
                  have hcn : cntG G l3[j] + onB (l3.take j) l3[j] ≤ 1000000 := by
                    have h1 := cnt_le G l3[j]
                    have h2 : onB (l3.take j) l3[j] ≤ 1 := by unfold onB; split <;> omega
                    omega
                  obtain ⟨nn, hnn⟩ : ∃ nn : Nat, nn = cntG G l3[j] + onB (l3.take j) l3[j] := ⟨_, rfl⟩
                  rw [← hnn] at HKJ hcn
                  have HNN := Lib.hid hnn
                  have hwn := wrapN (i := nn) (by omega)
                  clear hcell hnn
                  go_wp2_with (first
                    | (at_lookup; refine wpList_lookup_L _ rfl _ _ 55 false rfl 9 3 Try.underlying55 Try.underlying9 _ (Try.zeroValue3 _) b _ rfl HMQ.out l3[j] rfl ?_; simp only [Bool.false_eq_true, if_false]; rw [HKJ.out])
                    | (at_mapUpdate; refine wpList_mapUpdate_L _ rfl _ _ _ 55 rfl 9 3 Try.underlying55 Try.underlying9 b _ rfl HMQ.out l3[j] (.int .i64 ((nn + 1 : Nat) : Int)) rfl rfl ?_; intro w6 hm6 hg6 hs6; have HM6 := Lib.hid hm6; have HG6 := Lib.hid (Fr.of_grown hg6); clear hm6 hg6 hs6))
                  refine ⟨⟨j + 1, _, rfl, by omega, HM6.out, fun x => ?_, HFQ.out.trans (HG6.out.mono (T := fun k => k = b) fun i _ h => Option.some.inj h) (fun i _ h => h)⟩, by simp [intOf]; omega⟩
                  have hnm : l3[j] ∉ l3.take j := by
                    intro hmem
                    obtain ⟨i, hi⟩ := List.mem_iff_getElem?.1 hmem
                    have hij : i < j := by
                      have := (List.getElem?_eq_some_iff.1 hi).1
                      rw [List.length_take] at this
                      omega
                    rw [List.getElem?_take_of_lt hij] at hi
                    have := nodup_idx HND.out hi (List.getElem?_eq_getElem hlt)
                    omega
                  rw [mget_mput, List.take_succ_eq_append_getElem hlt, onB_snoc hnm]
                  by_cases hx : x = l3[j]
                  · rw [if_pos hx, if_pos hx, hx, Option.getD_some, HNN.out]
                    rfl
                  · rw [if_neg hx, if_neg hx]
                    exact HKQ.out x
                · obtain rfl : j = l3.length := by omega
                  go_wp2_with fail
                  go_ret
                  have hadd : addG G id ps = G ++ [(id, l3)] := by unfold addG; rw [if_pos HWY.out, HL3.out]
                  have hrows := HROWS.out _ HFQ'.out
                  have hnew : id ∉ m.map (·.1) := by rw [HM.out.keys]; exact hasG_false.1 HG.out
                  refine ⟨(congrArg (fun n => Ending.returned (.int .i64 n)) HWY.out).symm, ⟨(HFQ'.out.block p (Array.getElem?_eq_some_iff.1 HP.out).1 (fun h => h.elim HPA.out HPB.out)).trans HP.out, _, k', ⟨HM4.out.fr HFQ.out HM.out.ne, HMQ.out, HM.out.ne, ?_, ?_, fun x => ?_, addG_ok HM.out.ok id ps, ?_⟩⟩, ?_⟩
                  · rw [mput_new _ hnew, hadd, List.map_append, idsG_append, HM.out.keys]
                    rfl
                  · rw [mput_new _ hnew, hadd]
                    intro i e hi
                    by_cases hlt' : i < G.length
                    · rw [List.getElem?_append_left hlt'] at hi
                      obtain ⟨v, h1, h2⟩ := HM.out.rows i e hi
                      rw [List.getElem?_append_left (by rw [HM.out.mlen]; exact hlt')]
                      exact ⟨v, h1, own_move h2 fun g cur _ hg => hrows g cur hg⟩
                    · have hll := (List.getElem?_eq_some_iff.1 hi).1
                      simp at hll
                      obtain rfl : i = G.length := by omega
                      rw [List.getElem?_append_right (Nat.le_refl _)] at hi
                      simp at hi
                      subst hi
                      rw [List.getElem?_append_right (by rw [HM.out.mlen]; exact Nat.le_refl _), HM.out.mlen]
                      exact ⟨_, by simp, own_move (ownsRow_weaken HO3.out (Nat.zero_le _)) fun g cur _ hg => hrows g cur hg⟩
                  · rw [hadd, cnt_snoc]
                    have := HKQ.out x
                    rw [List.take_length] at this
                    exact this
                  · rw [hadd]
                    intro e he
                    rcases List.mem_append.1 he with he | he
                    · exact HM.out.small e he
                    · rw [List.mem_singleton.1 he]
                      exact hn3
                  · exact (Fr.of_below (S := fun k => k = a ∨ k = b) HB3.out).trans HFQ'.out (fun i _ h => h)

end Go.Proofs.Ytplgelmfhacjkaa

namespace Go.Proofs.Ytplgelmfhacjkaa
open Go.RowKit Go.Proofs.YtplgelmfhacjkaaW.PrintWords

theorem cnt_zero {G : List Ent} {x : ByteArray} : cntG G x = 0 ↔ ∀ e ∈ G, x ∉ e.2 := by
  unfold cntG
  rw [List.length_eq_zero_iff, List.filter_eq_nil_iff]
  constructor
  · exact fun h e he hx => h e he (inB_iff.2 hx)
  · exact fun h e he hx => h e he (inB_iff.1 hx)

/-- The heads among some entries of the map. -/
def headsOf (G : List Ent) (m : List (ByteArray × Value)) : List ByteArray := (m.map (·.1)).filter fun x => decide (cntG G x = 0)

theorem headsOf_snoc (G : List Ent) (m : List (ByteArray × Value)) (k : ByteArray) (v : Value) : headsOf G (m ++ [(k, v)]) = if cntG G k = 0 then headsOf G m ++ [k] else headsOf G m := by
  unfold headsOf
  rw [List.map_append, List.filter_append]
  by_cases h : cntG G k = 0 <;> simp [h]

theorem headsOf_is {G : List Ent} (hG : GOk G) {done m : List (ByteArray × Value)} (hk : m.map (·.1) = idsG G) (hp : done.Perm m) {r : List ByteArray} (hr : r.Perm (headsOf G done)) (hs : Rising r) : IsHeads G r := by
  have hpk : (done.map (·.1)).Perm (idsG G) := hk ▸ hp.map (·.1)
  have hnd : (headsOf G done).Nodup := List.Pairwise.filter _ ((hpk.nodup_iff).2 hG.nodup)
  refine ⟨hs.strict ((hr.nodup_iff).2 hnd), fun x => ?_⟩
  rw [hr.mem_iff, headsOf, List.mem_filter, hpk.mem_iff, decide_eq_true_eq, cnt_zero]

theorem headsOf_le {G : List Ent} {done left m : List (ByteArray × Value)} (hk : m.map (·.1) = idsG G) (hp : (done ++ left).Perm m) : (headsOf G done).length ≤ G.length := by
  have h1 : (headsOf G done).length ≤ (done.map (·.1)).length := List.length_filter_le _ _
  have h2 := hp.length_eq
  have h3 := congrArg List.length hk
  simp [idsG] at h1 h2 h3
  omega

theorem heads_none (w : World) : Calls Try.prog 15 #[.pointer none] w fun e w' => e = .returned (.slice none 0 0) ∧ w' = w := by
  go_enter Try.func15, Try.ntmps15
  go_wp2_with (go_at_call 34; refine (Try.slices_Sort_string_none none 0 w).mono ?_; rintro e w ⟨rfl, rfl⟩)
  go_ret
  exact ⟨rfl, rfl⟩

set_option maxHeartbeats 4000000 in
set_option maxRecDepth 100000 in
theorem headsD_any {w : World} {p a b : Nat} {G : List Ent} (h : DagRep w p a b G) : Calls Try.prog 15 #[.pointer (some ⟨p, 0, none⟩)] w fun e w' => ∃ (v : Value) (l : List ByteArray), e = .returned v ∧ IsHeads G l ∧ w'.ownsRow w.heap.size 9 1 v l.length (l.map Value.string) ∧ Below w.heap.size w w' := by
  obtain ⟨hp, m, k, hm⟩ := h
  obtain ⟨c0, c1, cf⟩ := box2 hp
  have hpl : p < w.heap.size := (Array.getElem?_eq_some_iff.1 hp).1
  have hGl := hm.ok.len
  have hal := hm.ma.lt
  have hbl := hm.mb.lt
  have HM := Lib.hid hm
  clear hp hm
  obtain ⟨i0, hi0, hz0, hz1, hz2⟩ := info_parts info_strs
  go_enter Try.func15, Try.ntmps15
  go_wp2_with (at_range; refine wpList_range_L _ rfl _ 54 rfl 9 25 Try.underlying54 a m rfl HM.out.ma ?_; intro w0 hr0 hf0 hs0; have HR0 := Lib.hid hr0; have HF0 := Lib.hid hf0; clear hr0 hf0)
  go_frame
  go_loopw [3] (fun v wr => ∃ left done : List (ByteArray × Value), RangeL wr w.heap.size a m left ∧ (done ++ left).Perm m ∧ wr.ownsRow (w.heap.size + 1) 9 1 v (headsOf G done).length ((headsOf G done).map Value.string) ∧ Below w.heap.size w wr) (fun _ wr => wr.rangeLeft a w.heap.size)
  case atStart =>
    exact ⟨m, [], HR0.out, List.Perm.refl _, own_none _ _ _ _, HF0.out.to_below (Nat.le_refl _) fun _ _ h => h⟩
  case round =>
    obtain ⟨left, done, hr, hp, ho, hb⟩ := hrel
    have hhl := headsOf_le HM.out.keys hp
    have HR := Lib.hid hr
    have HP := Lib.hid hp
    have HO := Lib.hid ho
    have HB := Lib.hid hb
    have hrl := hr.lt
    clear hr hp ho hb
    go_upto_region 5 with (at_next; refine wpList_next_L _ rfl _ rfl w.heap.size a m left rfl HR.out (fun hl0 => ?_) (fun i k0 v0 w1 hi0' hr1 hf1 hs1 hen => ?_))
    · subst hl0
      rw [List.append_nil] at HP
      refine (sort_own HO.out (by omega) (by omega)).mono ?_
      rintro e w2 ⟨rfl, ⟨r, r1, r2, r3, r4⟩, hb2, _⟩
      have R1 := Lib.hid r1
      have R2 := Lib.hid r2
      have R4 := Lib.hid r4
      have HB2 := Lib.hid (HB.out.trans (hb2.mono (Nat.le_succ _)))
      clear r1 r2 r3 r4 hb2
      go_wp2_with fail
      go_ret
      exact ⟨_, r, rfl, headsOf_is HM.out.ok HM.out.keys HP.out R1.out R2.out, ownsRow_weaken R4.out (Nat.le_succ _), HB2.out⟩
    · have hfw := HB.out.trans ((Fr.to_below hf1 (B := w.heap.size) (by omega) (fun k h e => by omega)))
      have d1 := (hfw.cell (p := ⟨p, 1, none⟩) hpl).trans c1
      have hcb := HM.out.kids k0
      have HMB := Lib.hid (HM.out.mb.move (hfw.block b hbl))
      have HO1 := Lib.hid (show w1.ownsRow (w.heap.size + 1) 9 1 u3 (headsOf G done).length ((headsOf G done).map Value.string) from ownsRow_fr HO.out hf1 fun g hg e => by
        have := (HO.out.lt g hg).1
        omega)
      have HR1 := Lib.hid hr1
      have HFW := Lib.hid hfw
      have HKB := Lib.hid hcb
      have HI := Lib.hid hi0'
      have HS1 := Lib.hid hs1
      clear hr1 hf1 hfw hcb hi0' hs1
      have hpm := (List.getElem?_eq_some_iff.1 HI.out).1
      have hnew : (done ++ [(k0, v0)] ++ left.eraseIdx i).Perm m := by
        rw [List.append_assoc]
        exact ((eraseIdx_perm HI.out).append_left done).trans HP.out
      have hsn := headsOf_snoc G done k0 v0
      have HNEW := Lib.hid hnew
      have HSN := Lib.hid hsn
      clear hnew hsn
      by_cases h0 : cntG G k0 = 0
      · rw [h0] at HKB
        have HSN' := Lib.hid (HSN.out.trans (if_pos h0))
        clear HSN
        go_wp2_with (first
          | (at_lookup; refine wpList_lookup_L _ rfl _ _ 55 false rfl 9 3 Try.underlying55 Try.underlying9 _ (Try.zeroValue3 _) b _ rfl HMB.out k0 rfl ?_; simp only [Bool.false_eq_true, if_false]; rw [HKB.out])
          | (at_builtin; refine wpList_append_strs _ rfl (.tmp 23) (.tmp 25) 25 rfl (w.heap.size + 1) 9 i0 Try.underlying25 hi0 hz0 hz1 hz2 _ (headsOf G done) [k0] rfl (HO1.out.alloc _) (some ⟨w1.heap.size, 0, none⟩) 1 rfl (one_str _ _ _) (by simp only [List.length_cons, List.length_nil]; omega) (by rw [asz]; have := HS1.out; omega) ?_; intro v' w2 hown2 hg2 hat2; have HO2 := Lib.hid hown2; have HG2 := Lib.hid hg2; clear hown2 hg2 hat2))
        have hkeep : ∀ k, k ≤ w.heap.size → w2.heap[k]? = w1.heap[k]? := fun k hk => (HG2.out.block k (by rw [asz]; have := HS1.out; omega) (fun e => by have := (HO1.out.lt k e.symm).1; omega)).trans (Below.heap_alloc _ _ k (by have := HS1.out; omega))
        have hr2 : RangeL w2 w.heap.size a m (left.eraseIdx i) := HR1.out.move (hkeep _ (Nat.le_refl _)) (hkeep _ (by omega))
        refine ⟨⟨left.eraseIdx i, done ++ [(k0, v0)], hr2, HNEW.out, by rw [HSN'.out]; exact HO2.out, ?_⟩, ?_⟩
        · refine (HFW.out.alloc HFW.out.size _).grown HG2.out (by rw [asz]; have := HS1.out; omega) (fun j e => ?_)
          have := (HO1.out.lt j e).1
          omega
        · rw [hr2.left_eq, HR.out.left_eq, List.length_eraseIdx, if_pos hpm]
          omega
      · have HSN' := Lib.hid (HSN.out.trans (if_neg h0))
        have h0' : ¬ ((cntG G k0 : Nat) : Int) = 0 := by omega
        clear HSN
        go_wp2_with (at_lookup; refine wpList_lookup_L _ rfl _ _ 55 false rfl 9 3 Try.underlying55 Try.underlying9 _ (Try.zeroValue3 _) b _ rfl HMB.out k0 rfl ?_; simp only [Bool.false_eq_true, if_false]; rw [HKB.out])
        refine ⟨⟨left.eraseIdx i, done ++ [(k0, v0)], HR1.out, HNEW.out, by rw [HSN'.out]; exact HO1.out, HFW.out⟩, ?_⟩
        rw [HR1.out.left_eq, HR.out.left_eq, List.length_eraseIdx, if_pos hpm]
        omega

end Go.Proofs.Ytplgelmfhacjkaa

namespace Go.Proofs.Ytplgelmfhacjkaa
open Go.RowKit Go.Proofs.YtplgelmfhacjkaaW.PrintWords

def mset (l : List ByteArray) : List (ByteArray × Value) := l.map fun s => (s, .bool true)

theorem mset_keys (l : List ByteArray) : (mset l).map (·.1) = l := by
  unfold mset
  rw [List.map_map]
  exact List.map_id _

theorem mset_get (l : List ByteArray) (x : ByteArray) : (mget (mset l) x).getD (.bool false) = .bool (inB l x) := by
  by_cases h : x ∈ l
  · have hb : inB l x = true := inB_iff.2 h
    rw [hb]
    unfold mget mset
    obtain ⟨y, hy⟩ : ∃ y, (l.map fun s => ((s, .bool true) : ByteArray × Value)).find? (fun p => decide (p.1 = x)) = some y := by
      rw [← Option.isSome_iff_exists, List.find?_isSome]
      exact ⟨(x, .bool true), List.mem_map.2 ⟨x, h, rfl⟩, by simp⟩
    rw [hy]
    obtain ⟨s, _, rfl⟩ := List.mem_map.1 (List.mem_of_find?_eq_some hy)
    rfl
  · have hb : inB l x = false := by
      cases hh : inB l x
      · rfl
      · exact absurd (inB_iff.1 hh) h
    rw [mget_none.2 (by rw [mset_keys]; exact h), hb]
    rfl

theorem mset_put {l : List ByteArray} {s : ByteArray} (h : s ∉ l) : mput (mset l) s (.bool true) = mset (l ++ [s]) := by
  rw [mput_new _ (by rw [mset_keys]; exact h)]
  unfold mset
  rw [List.map_append]
  rfl

/-- What is known between two rounds: k has been taken, t is still to do. -/
structure PastI (G : List Ent) (id : ByteArray) (k t : List ByteArray) : Prop where
  nodup : k.Nodup
  kanc : ∀ x ∈ k, Anc G x id
  tanc : ∀ x ∈ t, Anc G x id
  first : ∀ x ∈ parG G id, x ∈ k ∨ x ∈ t
  next : ∀ q ∈ k, ∀ x ∈ parG G q, x ∈ k ∨ x ∈ t
  small : t.length ≤ 300 * (1 + k.length)

theorem anc_id {G : List Ent} (hG : GOk G) {x id : ByteArray} (h : Anc G x id) : x ∈ idsG G := by
  cases h with
  | par h => exact parG_mem hG h
  | step h _ => exact parG_mem hG h

theorem nodup_sub : ∀ {l m : List ByteArray}, l.Nodup → (∀ x ∈ l, x ∈ m) → l.length ≤ m.length
  | [], _, _, _ => Nat.zero_le _
  | x :: l, m, h, hs => by
    obtain ⟨s, t, rfl⟩ := List.append_of_mem (hs x (by simp))
    obtain ⟨h1, h2⟩ := List.nodup_cons.1 h
    have := nodup_sub (m := s ++ t) h2 fun y hy => by
      have hm := hs y (by simp [hy])
      rcases List.mem_append.1 hm with hm | hm
      · exact List.mem_append.2 (.inl hm)
      · rcases List.mem_cons.1 hm with e | hm
        · exact absurd (e ▸ hy) h1
        · exact List.mem_append.2 (.inr hm)
    simp at this ⊢
    omega

theorem par_le {G : List Ent} (hG : GOk G) (id : ByteArray) : (parG G id).length ≤ 300 := by
  have h1 := nodup_sub (srising_nodup (parG_rise hG id)) (m := idsG G) (fun x hx => parG_mem hG hx)
  have h2 := hG.len
  simp [idsG] at h1
  omega

theorem PastI.klen {G : List Ent} (hG : GOk G) {id : ByteArray} {k t : List ByteArray} (h : PastI G id k t) : k.length ≤ 300 := by
  have h1 := nodup_sub h.nodup (m := idsG G) (fun x hx => anc_id hG (h.kanc x hx))
  have h2 := hG.len
  simp [idsG] at h1
  omega

theorem PastI.start {G : List Ent} (hG : GOk G) (id : ByteArray) : PastI G id [] (parG G id) :=
  ⟨List.nodup_nil, by simp, fun x hx => .par hx, fun x hx => .inr hx, by simp, by have := par_le hG id; simpa using this⟩

theorem PastI.skip {G : List Ent} {id : ByteArray} {k t : List ByteArray} {q : ByteArray} (h : PastI G id k (t ++ [q])) (hq : q ∈ k) : PastI G id k t :=
  ⟨h.nodup, h.kanc, fun x hx => h.tanc x (by simp [hx]), fun x hx => (h.first x hx).elim .inl fun hx => by
      rcases List.mem_append.1 hx with hx | hx
      · exact .inr hx
      · exact .inl (List.mem_singleton.1 hx ▸ hq),
    fun p hp x hx => (h.next p hp x hx).elim .inl fun hx => by
      rcases List.mem_append.1 hx with hx | hx
      · exact .inr hx
      · exact .inl (List.mem_singleton.1 hx ▸ hq),
    by have := h.small; simp at this; omega⟩

theorem PastI.take {G : List Ent} (hG : GOk G) {id : ByteArray} {k t : List ByteArray} {q : ByteArray} (h : PastI G id k (t ++ [q])) (hq : q ∉ k) : PastI G id (k ++ [q]) (t ++ parG G q) := by
  have hqa : Anc G q id := h.tanc q (by simp)
  have hpl := par_le hG q
  refine ⟨?_, ?_, ?_, ?_, ?_, ?_⟩
  · exact List.nodup_append.2 ⟨h.nodup, by simp, fun a ha b hb e => hq (by rw [List.mem_singleton.1 hb] at e; exact e ▸ ha)⟩
  · intro x hx
    rcases List.mem_append.1 hx with hx | hx
    · exact h.kanc x hx
    · rw [List.mem_singleton.1 hx]
      exact hqa
  · intro x hx
    rcases List.mem_append.1 hx with hx | hx
    · exact h.tanc x (by simp [hx])
    · exact .step hx hqa
  · intro x hx
    rcases h.first x hx with hx | hx
    · exact .inl (by simp [hx])
    · rcases List.mem_append.1 hx with hx | hx
      · exact .inr (by simp [hx])
      · exact .inl (by rw [List.mem_singleton.1 hx]; simp)
  · intro p hp x hx
    rcases List.mem_append.1 hp with hp | hp
    · rcases h.next p hp x hx with hx | hx
      · exact .inl (by simp [hx])
      · rcases List.mem_append.1 hx with hx | hx
        · exact .inr (by simp [hx])
        · exact .inl (by rw [List.mem_singleton.1 hx]; simp)
    · rw [List.mem_singleton.1 hp] at hx
      exact .inr (by simp [hx])
  · have := h.small
    simp at this ⊢
    omega

theorem PastI.done {G : List Ent} {id : ByteArray} {k : List ByteArray} (h : PastI G id k []) (x : ByteArray) : x ∈ k ↔ Anc G x id := by
  refine ⟨h.kanc x, fun hx => ?_⟩
  induction hx with
  | par hp => exact (h.first _ hp).resolve_right (by simp)
  | step hp _ ih => exact (h.next _ (ih h) _ hp).resolve_right (by simp)

/-- How many entries a map's block has; how long a slice's value is. -/
def mapLenAt (w : World) (c : Nat) : Nat := match w.heap[c]? with | some (.map es _) => es.size | _ => 0
def lenOf : Value → Nat
  | .slice _ n _ => n
  | _ => 0

theorem MapL.len_at {w : World} {c : Nat} {m : List (ByteArray × Value)} (h : MapL w c m) : mapLenAt w c = m.length := by
  obtain ⟨es, clock, hb, _, he⟩ := h
  have := congrArg List.length he
  unfold mapLenAt
  rw [hb]
  simpa using this

theorem own_len {w : World} {B e n : Nat} {v : Value} {xs : List Value} (h : w.ownsRow B e 1 v n xs) : lenOf v = n := by
  rcases h.2 with ⟨rfl, h0⟩ | ⟨g, cap, cur, rfl, _⟩
  · exact h0.symm
  · rfl

set_option maxHeartbeats 4000000 in
set_option maxRecDepth 100000 in
theorem pastD_any {w : World} {p a b : Nat} {G : List Ent} (h : DagRep w p a b G) (id : ByteArray) : Calls Try.prog 38 #[.pointer (some ⟨p, 0, none⟩), .string id] w fun e w' => ∃ (c : Nat) (l : List ByteArray), e = .returned (.map (some c)) ∧ MapL w' c (mset l) ∧ l.Nodup ∧ (∀ x, x ∈ l ↔ Anc G x id) ∧ w.heap.size ≤ c ∧ Below w.heap.size w w' := by
  obtain ⟨hp, m, k, hm⟩ := h
  obtain ⟨c0, c1, cf⟩ := box2 hp
  have hpl : p < w.heap.size := (Array.getElem?_eq_some_iff.1 hp).1
  have hal := hm.ma.lt
  have HM := Lib.hid hm
  clear hp hm
  obtain ⟨i0, hi0, hz0, hz1, hz2⟩ := info_parts info_strs
  have hmm := @run_makeMap Try.prog
  obtain ⟨w0, hw0⟩ : ∃ w0, w0 = w.alloc (.map #[] 0) := ⟨_, rfl⟩
  have hb0 : Below w.heap.size w w0 := by rw [hw0]; exact (Below.refl _ w).alloc (Nat.le_refl _) _
  have hm0 : MapL w0 w.heap.size [] := by rw [hw0]; exact MapL.made w
  have hs0 : w0.heap.size = w.heap.size + 1 := by rw [hw0]; simp
  have HB0 := Lib.hid hb0
  have HM0 := Lib.hid hm0
  have HS0 := Lib.hid hs0
  have HDM0 := Lib.hid (HM.out.below hb0)
  have d0 := (hb0.cell (p := ⟨p, 0, none⟩) hpl).trans c0
  have HC := Lib.hid (clone_own (HDM0.out.get id) (HDM0.out.par_small id))
  have HW0 := Lib.hid hw0.symm
  clear hb0 hm0 hs0 hw0
  go_enter Try.func38, Try.ntmps38
  go_upto_region 2 with fail
  rw [HW0.out]
  go_wp2_with (first
    | (at_lookup; refine wpList_lookup_L _ rfl _ _ 54 false rfl 9 25 Try.underlying54 Try.underlying9 _ (zero_strs _) a _ rfl HDM0.out.ma id rfl ?_; simp only [Bool.false_eq_true, if_false])
    | (go_at_call 39; refine HC.out.mono ?_; rintro e w1 ⟨v1, rfl, ho, hb⟩; have HO1 := Lib.hid ho; have HB1 := Lib.hid hb; clear ho hb))
  have hsz0 := HS0.out
  clear c0 c1
  go_loopw [6] (fun v wr => ∃ kk tt : List ByteArray, MapL wr w.heap.size (mset kk) ∧ wr.ownsRow (w.heap.size + 1) 9 1 v tt.length (tt.map Value.string) ∧ PastI G id kk tt ∧ Below w.heap.size w0 wr) (fun v wr => 301 * (300 - mapLenAt wr w.heap.size) + lenOf v)
  case atStart =>
    exact ⟨[], parG G id, (HM0.out.move (HB1.out.block _ (by omega))), by rw [← hsz0]; exact HO1.out, PastI.start HDM0.out.ok id, HB1.out.mono (by omega)⟩
  case round =>
    obtain ⟨kk, tt, hk, ho, hpi, hb⟩ := hrel
    have hkl := hpi.klen HDM0.out.ok
    have hts := hpi.small
    rcases List.eq_nil_or_concat tt with rfl | ⟨t', q, rfl⟩
    · obtain ⟨A6, c6, rfl, _⟩ := own_slice ho
      have HK := Lib.hid hk
      have HPI := Lib.hid hpi
      have HB := Lib.hid hb
      clear hk ho hpi hb
      go_wp2_with fail
      go_ret
      exact ⟨_, kk, rfl, HK.out, HPI.out.nodup, HPI.out.done, Nat.le_refl _, HB0.out.trans HB.out⟩
    · rw [List.concat_eq_append] at ho hpi hts
      have hll : (t' ++ [q]).length = t'.length + 1 := by simp
      rw [hll] at ho hts
      obtain ⟨g, c6, rfl⟩ := own_pos ho (by omega)
      have hcq := ho.cells (g := g) rfl t'.length (.string q) (by simp)
      rw [add0] at hcq
      have hgl := ho.lt g rfl
      have hpre := own_prefix (k := t'.length) (xs := t'.map Value.string) (ys := [Value.string q]) (by rw [← List.map_singleton, ← List.map_append]; exact ho) (by simp) (by omega)
      have hcap : t'.length + 1 ≤ c6 := by
        rcases ho.2 with ⟨e, _⟩ | ⟨g', cap', cur, e, _, _, h3, _⟩
        · cases e
        · cases e
          exact h3
      obtain ⟨N, hN⟩ : ∃ N, N = t'.length := ⟨_, rfl⟩
      rw [← hN] at hcq hpre hcap hts ho
      rw [← hN]
      have hwl : IntKind.i64.wrap (((N + 1 : Nat) : Int) - 1) = (N : Int) := (IntWalk.i64_in _ (by omega)).trans (by omega)
      have HN := Lib.hid hN
      have hkw := HB0.out.trans hb
      have HDM := Lib.hid (HM.out.below hkw)
      have d2 := (hkw.cell (p := ⟨p, 0, none⟩) hpl).trans (show w.cell? ⟨p, 0, none⟩ = some (.map (some a)) from ((HB0.out.cell (p := ⟨p, 0, none⟩) hpl).symm.trans d0))
      have hwz := hkw.size
      have HK := Lib.hid hk
      have HPI := Lib.hid hpi
      have HB := Lib.hid hb
      have HPRE := Lib.hid hpre
      have hql := hk.lt
      clear hk hb ho hpre hN hkw
      by_cases hq : q ∈ kk
      · have HQ := Lib.hid ((mset_get kk q).trans (congrArg Value.bool (inB_iff.2 hq)))
        have HPS := Lib.hid (hpi.skip hq)
        clear hpi hq
        go_wp2_with (at_lookup; refine wpList_lookup_L _ rfl _ _ 68 false rfl 9 4 Try.underlying68 Try.underlying9 _ (Try.zeroValue4 _) w.heap.size _ rfl HK.out q rfl ?_; simp only [Bool.false_eq_true, if_false]; rw [HQ.out])
        refine ⟨⟨kk, t', HK.out, by rw [← HN.out]; exact HPRE.out, HPS.out, HB.out⟩, ?_⟩
        simp [lenOf]
      · have HQ := Lib.hid ((mset_get kk q).trans (congrArg Value.bool (by
          cases hh : inB kk q
          · rfl
          · exact absurd (inB_iff.1 hh) hq) : _ = Value.bool false))
        have hpt := hpi.take HDM0.out.ok hq
        have hkl2 := hpt.klen HDM0.out.ok
        simp only [List.length_append, List.length_cons, List.length_nil, Nat.zero_add] at hkl2
        have hpl2 := par_le HDM0.out.ok q
        have HPT := Lib.hid hpt
        have HPUT := Lib.hid (mset_put hq)
        clear hpi hq hpt
        go_upto_region 9 with (first
          | (at_lookup; refine wpList_lookup_L _ rfl _ _ 68 false rfl 9 4 Try.underlying68 Try.underlying9 _ (Try.zeroValue4 _) w.heap.size _ rfl HK.out q rfl ?_; simp only [Bool.false_eq_true, if_false]; rw [HQ.out])
          | (at_mapUpdate; refine wpList_mapUpdate_L _ rfl _ _ _ 68 rfl 9 4 Try.underlying68 Try.underlying9 w.heap.size _ rfl HK.out q (.bool true) rfl rfl ?_; intro w2 hm2 hg2 hs2; have HM2 := Lib.hid hm2; have HG2 := Lib.hid hg2; have HS2 := Lib.hid hs2; clear hm2 hg2 hs2))
        have hkeep : ∀ j, j < wr.heap.size → j ≠ w.heap.size → w2.heap[j]? = wr.heap[j]? := fun j hj hne => HG2.out.block j hj (fun e => hne (Option.some.inj e))
        have HD2 := Lib.hid (HDM.out.move (hkeep a HDM.out.ma.lt (by omega)) (hkeep b HDM.out.mb.lt (by have := HM.out.mb.lt; omega)) (fun j cur hj => hkeep j (Array.getElem?_eq_some_iff.1 hj).1 (cells_map hj HK.out)))
        have d3 : w2.cell? ⟨p, 0, none⟩ = some (.map (some a)) := by
          rw [← d2]
          simp only [World.cell?, hkeep p (by omega) (by omega)]
        have HPR2 := Lib.hid (own_move HPRE.out (w' := w2) fun j cur _ hj => hkeep j (Array.getElem?_eq_some_iff.1 hj).1 (cells_map hj HK.out))
        obtain ⟨Aq, cq, hvq, hcq', hrq, _⟩ := own_read (HD2.out.get q) (by omega)
        have HVQ := Lib.hid hvq
        have HRQ := Lib.hid hrq
        have HB2 := Lib.hid (HB.out.grown HG2.out (by have := HB.out.size; omega) (fun j e => by cases e; exact Nat.le_refl _))
        have hs2 := HS2.out
        clear hvq hrq hkeep
        go_wp2_with (first
          | (at_lookup; refine wpList_lookup_L _ rfl _ _ 54 false rfl 9 25 Try.underlying54 Try.underlying9 _ (zero_strs _) a _ rfl HD2.out.ma q rfl ?_; simp only [Bool.false_eq_true, if_false]; rw [HVQ.out])
          | (at_builtin; refine wpList_append_strs _ rfl (.tmp 36) (.tmp 42) 25 rfl (w.heap.size + 1) 9 i0 Try.underlying25 hi0 hz0 hz1 hz2 (.slice (some ⟨g, 0, none⟩) N c6) t' (parG G q) rfl (by rw [← HN.out]; exact HPR2.out) Aq cq rfl HRQ.out (by rw [← HN.out]; omega) (by omega) ?_; intro v' w3 hown3 hg3 hat3; have HO3 := Lib.hid hown3; have HG3 := Lib.hid hg3; clear hown3 hg3 hat3))
        have hm3 : MapL w3 w.heap.size (mset (kk ++ [q])) := by
          rw [← HPUT.out]
          exact HM2.out.move (HG3.out.block _ (by omega) (fun e => by have := Option.some.inj e; simp at this; omega))
        refine ⟨⟨kk ++ [q], t' ++ parG G q, hm3, HO3.out, HPT.out, HB2.out.grown HG3.out (by have := HB2.out.size; omega) (fun j e => by have := Option.some.inj e; simp at this; omega)⟩, ?_⟩
        rw [hm3.len_at, HK.out.len_at, own_len HO3.out]
        have h1 := HN.out
        have h2 : lenOf (.slice (some ⟨g, 0, none⟩) (N + 1) c6) = N + 1 := rfl
        rw [h2]
        simp only [mset, List.length_map, List.length_append, List.length_cons, List.length_nil, Nat.zero_add]
        omega

end Go.Proofs.Ytplgelmfhacjkaa

namespace Go.Proofs.Ytplgelmfhacjkaa
open Go.RowKit Go.Proofs.YtplgelmfhacjkaaW.PrintWords

theorem keys_any (mb : Option Nat) (W : World) : Calls Try.prog 40 #[.map mb] W fun e w' => e = .returned (.func (.func 51) #[] #[.pointer (some ⟨W.heap.size, 0, none⟩)]) ∧ w' = W.alloc (.cells #[.map mb] 68) :=
  (callsIn_wide (n := 5)).1 (AnyZ.keys_in Try.keys40 Fence.wide 5 trivial rfl mb W)

open Go.Shelf Go.Sort Go.Maps in
set_option maxHeartbeats 1000000 in
/-- The keys of a map, rising. -/
theorem sorted_any {w : World} {b : Nat} {m : List (ByteArray × Value)} (h : MapL w b m) (hk : ∀ p ∈ m, p.1.size ≤ maxLen) (hl : m.length ≤ 1000000) :
    Calls Try.prog 32 #[.func (.func 51) #[] #[.pointer (some ⟨w.heap.size, 0, none⟩)]] (w.alloc (.cells #[.map (some b)] 68)) fun e w' =>
      ∃ (v : Value) (r : List ByteArray), e = .returned v ∧ r.Perm (m.map (·.1)) ∧ Rising r ∧ w'.ownsRow (w.heap.size + 1) 9 1 v r.length (r.map Value.string) ∧ (v = .slice none 0 0 ↔ r = []) ∧
        Below (w.heap.size + 1) (w.alloc (.cells #[.map (some b)] 68)) w' := by
  obtain ⟨D0, hown, hperm, hsize⟩ := h.owns (P := Try.prog) Try.underlying9 hk (by unfold maxLen; omega)
  have hbl := hown.lt
  have hseq : SeqGives Fence.wide 2 Try.prog 51 #[.pointer (some ⟨w.heap.size, 0, none⟩)] encStr (fun ss => ss.Perm (strKeys D0)) (Maps.size D0) (w.alloc (.cells #[.map (some b)] 68)) :=
    AnyZ.keys_gives (ρ := Try.keys40_ren) { Try.keys40 with } Fence.wide _ trivial rfl (by omega) w.heap.size b m.length D0 _ (by simp) (by simp) (by
      obtain ⟨es, clock, hb, Ft, hs, hD⟩ := hown
      exact ⟨es, clock, (Below.heap_alloc _ _ b hbl).trans hb, Ft, hs, hD⟩)
  have hc := AnyZ.sorted_in Try.sorted32 Fence.wide 5 trivial trivial trivial trivial rfl (by omega) (sorts_at _) (enters_of Try.func34 (by kernel_rfl) rfl) 51 #[.pointer (some ⟨w.heap.size, 0, none⟩)] trivial (enters_of Try.func51 (by kernel_rfl) rfl) _ _ (by rw [hsize]; unfold maxLen; omega) (by rw [hsize]; omega) _ hseq
  refine ((callsIn_wide (n := 5)).1 hc).mono ?_
  rintro e w' ⟨v, ss, rfl, hS, hrow, hnil, hb⟩
  obtain ⟨r, h1, h2, h3, h4⟩ := sorted_keys hS hperm
  have hsz : (w.alloc (.cells #[.map (some b)] 68)).heap.size = w.heap.size + 1 := by simp
  refine ⟨v, r, rfl, h1, h2, ?_, ?_, hb.mono (by rw [hsz]; exact Nat.le_refl _)⟩
  · rw [hsz] at hrow
    rw [h4, ← h3]
    exact hrow
  · rw [hnil, ← List.length_eq_zero_iff, ← List.length_eq_zero_iff, h4]

theorem pastS_none (id : ByteArray) (w : World) : Calls Try.prog 27 #[.pointer none, .string id] w fun e w' => e = .returned (.slice none 0 0) ∧ w' = w := by
  go_enter Try.func27, Try.ntmps27
  go_wp2
  go_ret
  exact ⟨rfl, rfl⟩

theorem ahead_none (x id : ByteArray) (w : World) : Calls Try.prog 19 #[.pointer none, .string x, .string id] w fun e w' => e = .returned (.bool false) ∧ w' = w := by
  go_enter Try.func19, Try.ntmps19
  go_wp2_with fail
  go_ret
  exact ⟨rfl, rfl⟩

theorem anc_len {G : List Ent} (hG : GOk G) {id : ByteArray} {l : List ByteArray} (hn : l.Nodup) (hl : ∀ x, x ∈ l ↔ Anc G x id) : l.length ≤ 300 := by
  have h1 := nodup_sub hn (m := idsG G) (fun x hx => anc_id hG ((hl x).1 hx))
  have h2 := hG.len
  simp [idsG] at h1
  omega

theorem mset_small {G : List Ent} (hG : GOk G) {id : ByteArray} {l : List ByteArray} (hn : l.Nodup) (hl : ∀ x, x ∈ l ↔ Anc G x id) : (∀ p ∈ mset l, p.1.size ≤ maxLen) ∧ (mset l).length ≤ 1000000 := by
  refine ⟨fun p hp => ?_, by have := anc_len hG hn hl; simp [mset]; omega⟩
  obtain ⟨s, hs, rfl⟩ := List.mem_map.1 hp
  obtain ⟨i, e, hi, rfl⟩ := mem_idsG (anc_id hG ((hl s).1 hs))
  have := (hG.idok e (List.mem_of_getElem? hi)).2
  unfold maxLen
  show e.1.size ≤ _
  omega

set_option maxHeartbeats 1000000 in
theorem pastSD_any {w : World} {p a b : Nat} {G : List Ent} (h : DagRep w p a b G) (id : ByteArray) : Calls Try.prog 27 #[.pointer (some ⟨p, 0, none⟩), .string id] w fun e w' => ∃ (v : Value) (l : List ByteArray), e = .returned v ∧ IsPast G id l ∧ w'.ownsRow w.heap.size 9 1 v l.length (l.map Value.string) ∧ Below w.heap.size w w' := by
  have hG := h.ok
  have HP := Lib.hid (pastD_any h id)
  have HG := Lib.hid hG
  clear h hG
  go_enter Try.func27, Try.ntmps27
  go_wp2_with (first
    | (go_at_call 38; refine HP.out.mono ?_; rintro e w1 ⟨c, l, rfl, hm, hn, hl, hc, hb⟩; have HM := Lib.hid hm; have HN := Lib.hid hn; have HL := Lib.hid hl; have HB := Lib.hid hb; have HSZ := Lib.hid (mset_small HG.out hn hl); clear hm hn hl hb)
    | (go_at_call 40; refine (keys_any _ _).mono ?_; rintro e w2 ⟨rfl, hw2⟩; have HW2 := Lib.hid hw2; clear hw2)
    | (go_at_call 32; rw [HW2.out]; refine (sorted_any HM.out HSZ.out.1 HSZ.out.2).mono ?_; rintro e w3 ⟨v3, r3, rfl, hp3, hs3, ho3, _, hb3⟩; have HP3 := Lib.hid hp3; have HS3 := Lib.hid hs3; have HO3 := Lib.hid ho3; have HB3 := Lib.hid hb3; clear hp3 hs3 ho3 hb3))
  go_ret
  have hsz := HB.out.size
  refine ⟨_, r3, rfl, ⟨HS3.out.strict ?_, fun x => ?_⟩, ownsRow_weaken HO3.out (by omega), ?_⟩
  · rw [HP3.out.nodup_iff, mset_keys]
    exact HN.out
  · rw [HP3.out.mem_iff, mset_keys]
    exact HL.out x
  · exact HB.out.trans ((((Below.refl _ w1).alloc (Nat.le_refl _) _).mono hsz).trans (HB3.out.mono (by omega)))

theorem look_set {w : World} {c : Nat} {l : List ByteArray} (h : MapL w c (mset l)) (x : ByteArray) : (Instr.lookup 68 (.map (some c)) (.string x) false).run Try.prog w = .ok (.bool (inB l x)) w := by
  have := h.lookup (P := Try.prog) Try.underlying68 Try.underlying9 (Try.zeroValue4 w) x false
  simp only [Bool.false_eq_true, if_false] at this
  rw [this, mset_get]

set_option maxRecDepth 100000 in
set_option maxHeartbeats 1000000 in
theorem aheadD_any {w : World} {p a b : Nat} {G : List Ent} (h : DagRep w p a b G) (x id : ByteArray) : Calls Try.prog 19 #[.pointer (some ⟨p, 0, none⟩), .string x, .string id] w fun e w' => ∃ r : Bool, e = .returned (.bool r) ∧ (r = true ↔ Anc G x id) ∧ Below w.heap.size w w' := by
  have HP := Lib.hid (pastD_any h id)
  clear h
  go_enter Try.func19, Try.ntmps19
  go_wp2_with (go_at_call 38; refine HP.out.mono ?_; rintro e w1 ⟨c, l, rfl, hm, hn, hl, hc, hb⟩; have HL := Lib.hid hl; have HB := Lib.hid hb; have hlk := look_set hm x; clear hm hn hl hb)
  go_ret
  exact ⟨_, rfl, inB_iff.trans (HL.out x), HB.out⟩

end Go.Proofs.Ytplgelmfhacjkaa
