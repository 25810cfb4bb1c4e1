/- Package dag walked: Order; the document's example. -/
import Derived.Test.YtplgelmfhacjkaaZB
import Derived.Deep.Upon
import Derived.Lib.SlBuf
import Derived.Test.YtplgelmfhacjkaaZC
import Derived.Test.YtplgelmfhacjkaaRows
import Derived.Test.YtplgelmfhacjkaaZA
import Derived.OpenShut
import Derived.ChangeOld

namespace Go.Proofs.Ytplgelmfhacjkaa
open Go.RowKit Go.Proofs.YtplgelmfhacjkaaW.PrintWords

theorem setCells_heap {g : Nat} {t : TypeId} {f : Nat × Nat} : ∀ (vs : List Value) (o : Nat) {w : World} {cur : Array Value}, w.heap[g]? = some (.cells cur t f) →
    ∃ cur', (w.setCells g o vs).heap[g]? = some (.cells cur' t f) ∧ cur'.size = cur.size ∧ ∀ j, cur'[j]? = if o ≤ j ∧ j < o + vs.length ∧ j < cur.size then vs[j - o]? else cur[j]?
  | [], o, w, cur, h => ⟨cur, h, rfl, fun j => by rw [if_neg (by simp; omega)]⟩
  | v :: r, o, w, cur, h => by
    obtain ⟨c2, h1, h2, h3⟩ := setCells_heap r (o + 1) (setCell_row v h (j := o))
    refine ⟨c2, h1, by rw [h2]; simp, fun j => ?_⟩
    rw [h3 j]
    simp only [Array.size_setIfInBounds, List.length_cons]
    by_cases hj : o = j
    · subst hj
      rw [if_neg (by omega)]
      by_cases hs : o < cur.size
      · rw [if_pos (by omega), Nat.sub_self, Array.getElem?_setIfInBounds_self_of_lt hs]
        rfl
      · rw [if_neg (by omega), Array.getElem?_eq_none (by simp; omega), Array.getElem?_eq_none (by omega)]
    · rw [Array.getElem?_setIfInBounds_ne hj]
      by_cases hr : o + 1 ≤ j ∧ j < o + 1 + r.length ∧ j < cur.size
      · rw [if_pos hr, if_pos (by omega), show j - o = (j - (o + 1)) + 1 by omega]
        rfl
      · rw [if_neg hr, if_neg (by omega)]

theorem ins_at {α : Type} (xs : List α) (i : Nat) (k : α) (hi : i ≤ xs.length) (j : Nat) : (xs.take i ++ k :: xs.drop i)[j]? = if j < i then xs[j]? else if j = i then some k else xs[j - 1]? := by
  have hl : (xs.take i).length = i := by rw [List.length_take]; omega
  by_cases h1 : j < i
  · rw [if_pos h1, List.getElem?_append_left (by omega), List.getElem?_take_of_lt h1]
  · rw [if_neg h1, List.getElem?_append_right (by omega), hl]
    by_cases h2 : j = i
    · rw [if_pos h2, h2, Nat.sub_self]
      rfl
    · rw [if_neg h2, show j - i = (j - 1 - i) + 1 by omega, List.getElem?_cons_succ, List.getElem?_drop]
      congr 1
      omega

theorem grownBy_setCells {g : Nat} : ∀ (vs : List Value) (o : Nat) (w : World), w.grownBy (w.setCells g o vs) (some g)
  | [], _, w => ⟨rfl, rfl, rfl, Nat.le_refl _, fun _ _ _ => rfl⟩
  | v :: r, o, w => by
    have h1 : w.grownBy (w.setCell ⟨g, o, none⟩ v) (some g) := ⟨rfl, rfl, rfl, by simp [World.setCell], fun k _ hk => Below.heap_setCell _ _ _ _ (fun e => hk (by simp [e]))⟩
    have h2 := grownBy_setCells (g := g) r (o + 1) (w.setCell ⟨g, o, none⟩ v)
    exact h1.trans h2

/-- What Insert does to a row, and to nothing else. -/
def Inserted (w w' : World) (B : Nat) (v v' : Value) (xs : List ByteArray) (i : Nat) (k : ByteArray) : Prop :=
  QOwn w' B 9 v' (xs.take i ++ k :: xs.drop i) ∧ w.grownBy w' v.ownBlock ∧ (v'.ownBlock = v.ownBlock ∨ ∃ g, v'.ownBlock = some g ∧ w.heap.size ≤ g)

theorem insert_q {w : World} {B : Nat} {v : Value} {xs : List ByteArray} (h : QOwn w B 9 v xs) (hB : B ≤ w.heap.size) (k : ByteArray) (i : Nat) (hi : i ≤ xs.length) (hl : xs.length ≤ 1000000) :
    Calls Try.prog 36 #[v, .int .i64 i, .slice (some ⟨w.heap.size, 0, none⟩) 1 1] (w.alloc (.cells #[.string k] 9)) fun e w' => ∃ v', e = .returned v' ∧ Inserted w w' B v v' xs i k := by
  obtain ⟨w0, hw0⟩ : ∃ w0, w0 = w.alloc (.cells #[.string k] 9) := ⟨_, rfl⟩
  have hs0 : w0.heap.size = w.heap.size + 1 := by rw [hw0]; simp
  have hn0 : w0.heap[w.heap.size]? = some (.cells #[.string k] 9 (0, 0)) := by rw [hw0]; exact heap_alloc_new _ _
  have hold : ∀ j, j < w.heap.size → w0.heap[j]? = w.heap[j]? := fun j hj => by rw [hw0]; exact Below.heap_alloc _ _ j hj
  have hg0 : ∀ row, w.grownBy w0 row := fun row => by rw [hw0]; exact World.grownBy_alloc w _ row
  have h0 : QOwn w0 B 9 v xs := h.move fun j hj => hold j (h.lt hj).2
  rw [← hw0]
  have hvs : ∀ (j : Nat) (u : Value), [Value.string k][j]? = some u → w0.cell? ⟨w.heap.size, 0 + j, none⟩ = some u := by
    intro j u hu
    have hj := (List.getElem?_eq_some_iff.1 hu).1
    have hj0 : j = 0 := by simp at hj; exact hj
    subst hj0
    simp only [List.getElem?_cons_zero, Option.some.injEq] at hu
    subst hu
    simp [World.cell?, hn0]
  have hlen : (xs.take i ++ k :: xs.drop i).length = xs.length + 1 := by simp; omega
  have h1v : ∀ u ∈ [Value.string k], u.oneCell' = true := by
    intro u hu
    rw [List.mem_singleton.1 hu]
    rfl
  have h1c : ∀ u ∈ xs.map Value.string, u.oneCell' = true := by
    intro u hu
    obtain ⟨s, _, rfl⟩ := List.mem_map.1 hu
    rfl
  by_cases hie : i = xs.length
  · subst hie
    have happ : xs.take xs.length ++ k :: xs.drop xs.length = xs ++ [k] := by simp
    have grow : ∀ (bs : Option Addr) (c : Nat), v = .slice bs xs.length c → xs.length ≤ c → c < xs.length + 1 → (bs = none → xs.length = 0) → (∀ a, bs = some a → ∀ j u, (xs.map Value.string)[j]? = some u → w0.cell? (a.add j) = some u) →
        Calls Try.prog 36 #[v, .int .i64 xs.length, .slice (some ⟨w.heap.size, 0, none⟩) 1 1] w0 fun e w' => ∃ v', e = .returned v' ∧ Inserted w w' B v v' xs xs.length k := by
      intro bs c hv hnc hroom hnil hcs
      have hc := Any2.slices_Insert_string_end_grow Try.laysNm222 bs xs.length c w.heap.size 0 1 1 (xs.map Value.string) [.string k] w0 (by omega) hnc hroom (by omega) (by simp) rfl hnil hcs hvs h1v
      rw [hv]
      refine hc.mono ?_
      rintro e w' ⟨rfl, rfl⟩
      have hge := grownCap_ge w0 (xs.length + 1) c 9
      have hle := grownCap_le_maxLen w0 (xs.length + 1) c 9 (by simp only [maxLen]; omega)
      refine ⟨_, rfl, .inr ⟨w0.heap.size, 0, grownCap w0 (xs.length + 1) c 9, _, by rw [hlen]; rfl, by omega, heap_alloc_new w0.drew _, by rw [hlen]; exact hge, hle, ?_, ?_⟩, ?_, .inr ⟨_, rfl, show w.heap.size ≤ w0.heap.size by omega⟩⟩
      · simp only [Array.size_append, List.size_toArray, List.length_append, List.length_map, List.length_cons, List.length_nil, size_zeroCells]
        have : (Value.string ⟨#[]⟩).cells.size = 1 := rfl
        rw [this]
        show 0 + grownCap w0 (xs.length + 1) c 9 ≤ xs.length + (0 + 1) + (grownCap w0 (xs.length + 1) c 9 - (xs.length + 1)) * 1
        omega
      · intro j x hj
        rw [happ] at hj
        have hjl := (List.getElem?_eq_some_iff.1 hj).1
        rw [Nat.zero_add, Array.getElem?_append_left (by simpa using hjl), List.getElem?_toArray]
        rw [show xs.map Value.string ++ [Value.string k] = (xs ++ [k]).map Value.string by simp, List.getElem?_map, hj]
        rfl
      · have g1 : w0.grownBy (w0.drew.alloc (.cells ((xs.map Value.string ++ [Value.string k]).toArray ++ Builtin.zeroCells (Value.string ⟨#[]⟩).cells (grownCap w0 (xs.length + 1) c 9 - (xs.length + 1))) 9)) (Value.slice bs xs.length c).ownBlock := ⟨rfl, rfl, rfl, by simp, fun j hj _ => Below.heap_alloc w0.drew _ j hj⟩
        exact (hg0 _).trans g1
    rcases h0 with ⟨rfl, rfl⟩ | ⟨g, off, cap, cur, rfl, hb, hg, hcap, hm, hs, hr⟩
    · exact grow none 0 rfl (by simp) (by simp) (fun _ => rfl) (fun a e => by cases e)
    · by_cases hroom : xs.length + 1 ≤ cap
      · have hc := Any2.slices_Insert_string_end_room Try.laysNm222 g off xs.length cap w.heap.size 0 1 1 [.string k] w0 (by omega) hroom (by simp only [maxLen] at hm; omega) rfl
          (fun j hj => by simp [World.cell?, hg]; omega) (fun j _ => by simp [World.frozen?, hg]) hvs h1v
        refine hc.mono ?_
        rintro e w' ⟨rfl, rfl⟩
        obtain ⟨c2, e1, e2, e3⟩ := setCells_heap [Value.string k] (off + xs.length) hg
        refine ⟨_, rfl, .inr ⟨g, off, cap, c2, by rw [hlen], hb, e1, by rw [hlen]; exact hroom, hm, by omega, fun j x hj => ?_⟩, (hg0 _).trans (grownBy_setCells _ _ _), .inl rfl⟩
        rw [e3, ins_at xs xs.length k (Nat.le_refl _)] at *
        by_cases hj1 : j < xs.length
        · rw [if_pos hj1] at hj
          rw [if_neg (by omega)]
          exact hr j x hj
        · rw [if_neg hj1] at hj
          by_cases hj2 : j = xs.length
          · rw [if_pos hj2] at hj
            cases hj
            rw [if_pos (by simp; omega), hj2, Nat.sub_self]
            rfl
          · rw [if_neg hj2, List.getElem?_eq_none (by omega)] at hj
            cases hj
      · exact grow _ cap rfl hcap (by omega) (fun e => by cases e) (fun a e j u hu => by
          cases e
          have := QOwn.cells (.inr ⟨g, off, cap, cur, rfl, hb, hg, hcap, hm, hs, hr⟩ : QOwn w0 B 9 (.slice (some ⟨g, off, none⟩) xs.length cap) xs) j u hu
          exact this)
  · have hlt : i < xs.length := by omega
    rcases h0 with ⟨_, rfl⟩ | ⟨g, off, cap, cur, rfl, hb, hg, hcap, hm, hs, hr⟩
    · simp at hlt
    · have hgl : g < w.heap.size := (h.lt rfl).2
      have hq : QOwn w0 B 9 (.slice (some ⟨g, off, none⟩) xs.length cap) xs := .inr ⟨g, off, cap, cur, rfl, hb, hg, hcap, hm, hs, hr⟩
      have hcs : ∀ (j : Nat) (u : Value), (xs.map Value.string)[j]? = some u → w0.cell? ⟨g, off + j, none⟩ = some u := fun j u hu => by
        have := hq.cells j u hu
        rwa [addk'] at this
      have hdl : ((xs.map Value.string).drop i).length = xs.length - i := by simp
      have fin : ∀ (o : Nat) (c1 c2 c3 : Array Value), o + xs.length + 1 ≤ c1.size → (∀ j x, j < i → xs[j]? = some x → c1[o + j]? = some (.string x)) →
          c2.size = c1.size → (∀ j, c2[j]? = if o + i ≤ j ∧ j < o + i + [Value.string k].length ∧ j < c1.size then [Value.string k][j - (o + i)]? else c1[j]?) →
          (∀ j, c3[j]? = if o + (i + 1) ≤ j ∧ j < o + (i + 1) + ((xs.map Value.string).drop i).length ∧ j < c2.size then ((xs.map Value.string).drop i)[j - (o + (i + 1))]? else c2[j]?) →
          ∀ j x, (xs.take i ++ k :: xs.drop i)[j]? = some x → c3[o + j]? = some (.string x) := by
        intro o c1 c2 c3 hz h1 h2s h2 h3 j x hj
        rw [ins_at xs i k hi] at hj
        rw [h3]
        by_cases hj1 : j < i
        · rw [if_pos hj1] at hj
          rw [if_neg (by omega), h2, if_neg (by omega)]
          exact h1 j x hj1 hj
        · rw [if_neg hj1] at hj
          by_cases hj2 : j = i
          · rw [if_pos hj2] at hj
            cases hj
            rw [if_neg (by omega), h2, if_pos (by simp; omega), hj2, Nat.sub_self]
            rfl
          · rw [if_neg hj2] at hj
            have hjl := (List.getElem?_eq_some_iff.1 hj).1
            rw [if_pos (by rw [hdl]; omega), List.getElem?_drop, List.getElem?_map, show i + (o + j - (o + (i + 1))) = j - 1 by omega, hj]
            rfl
      have fin2 : ∀ (o : Nat) (c1 c2 c3 : Array Value), o + xs.length + 1 ≤ c1.size → (∀ j x, j < i → xs[j]? = some x → c1[o + j]? = some (.string x)) →
          c2.size = c1.size → (∀ j, c2[j]? = if o + (i + 1) ≤ j ∧ j < o + (i + 1) + ((xs.map Value.string).drop i).length ∧ j < c1.size then ((xs.map Value.string).drop i)[j - (o + (i + 1))]? else c1[j]?) →
          (∀ j, c3[j]? = if o + i ≤ j ∧ j < o + i + [Value.string k].length ∧ j < c2.size then [Value.string k][j - (o + i)]? else c2[j]?) →
          ∀ j x, (xs.take i ++ k :: xs.drop i)[j]? = some x → c3[o + j]? = some (.string x) := by
        intro o c1 c2 c3 hz h1 h2s h2 h3 j x hj
        rw [ins_at xs i k hi] at hj
        rw [h3]
        by_cases hj1 : j < i
        · rw [if_pos hj1] at hj
          rw [if_neg (by omega), h2, if_neg (by omega)]
          exact h1 j x hj1 hj
        · rw [if_neg hj1] at hj
          by_cases hj2 : j = i
          · rw [if_pos hj2] at hj
            cases hj
            rw [if_pos (by simp; omega), hj2, Nat.sub_self]
            rfl
          · rw [if_neg hj2] at hj
            have hjl := (List.getElem?_eq_some_iff.1 hj).1
            rw [if_neg (by simp; omega), h2, if_pos (by rw [hdl]; omega), List.getElem?_drop, List.getElem?_map, show i + (o + j - (o + (i + 1))) = j - 1 by omega, hj]
            rfl
      by_cases hroom : xs.length + 1 ≤ cap
      · have hsa : w0.shape? w.heap.size = some (9, 1) := by simp [World.shape?, hn0]
        have hsb : w0.shape? g = some (9, cur.size) := by simp [World.shape?, hg]
        have hc := Any2.slices_Insert_string_shift Try.laysNm222 g off xs.length cap i w.heap.size 0 1 1 (xs.map Value.string) [.string k] w0 hlt (by omega) hroom (by simp only [maxLen] at hm; omega) (by omega) (by simp) rfl
          hcs (fun j hj => by simp [World.cell?, hg]; omega) (fun j _ => by simp [World.frozen?, hg]) hvs h1c h1v _ _ 1 cur.size hsa hsb (by omega) (by simp [World.frozen?, hn0]) (by simp [World.frozen?, hn0])
        refine hc.mono ?_
        rintro e w' ⟨rfl, rfl⟩
        obtain ⟨c2, e1, e2, e3⟩ := setCells_heap (w := w0.drew) ((xs.map Value.string).drop i) (off + (i + 1)) hg
        obtain ⟨c3, f1, f2, f3⟩ := setCells_heap [Value.string k] (off + i) e1
        refine ⟨_, rfl, .inr ⟨g, off, cap, c3, by rw [hlen], hb, f1, by rw [hlen]; exact hroom, hm, by omega, fin2 off cur c2 c3 (by omega) (fun j x _ hx => hr j x hx) e2 e3 f3⟩, ?_, .inl rfl⟩
        have g1 : w0.grownBy w0.drew (some g) := ⟨rfl, rfl, rfl, Nat.le_refl _, fun _ _ _ => rfl⟩
        exact (hg0 _).trans (g1.trans ((grownBy_setCells _ _ _).trans (grownBy_setCells _ _ _)))
      · have hc := Any2.slices_Insert_string_grow Try.laysNm222 g off xs.length cap i w.heap.size 0 1 1 (xs.map Value.string) [.string k] w0 hlt (by omega) hcap (by omega) (by omega) (by simp) rfl hcs hvs h1c h1v
        refine hc.mono ?_
        rintro e w' ⟨rfl, rfl⟩
        have hge := grownCap_ge w0 (xs.length + 1) cap 9
        have hle := grownCap_le_maxLen w0 (xs.length + 1) cap 9 (by simp only [maxLen]; omega)
        show ∃ v', Ending.returned (.slice (some ⟨w0.heap.size, 0, none⟩) (xs.length + 1) (grownCap w0 (xs.length + 1) cap 9)) = Ending.returned v' ∧ Inserted w (((w0.alloc (.cells ((List.take i (xs.map Value.string)).toArray ++ Builtin.zeroCells (Value.string ⟨#[]⟩).cells (xs.length + 1 - i) ++ Builtin.zeroCells (Value.string ⟨#[]⟩).cells (grownCap w0 (xs.length + 1) cap 9 - (xs.length + 1))) 9)).drew.setCells w0.heap.size i [Value.string k]).drew.setCells w0.heap.size (i + 1) ((xs.map Value.string).drop i)) B _ v' xs i k
        obtain ⟨gc, hgc⟩ : ∃ gc, gc = grownCap w0 (xs.length + 1) cap 9 := ⟨_, rfl⟩
        rw [← hgc] at hge hle ⊢
        obtain ⟨arr, harr⟩ : ∃ arr, arr = (List.take i (xs.map Value.string)).toArray ++ Builtin.zeroCells (Value.string ⟨#[]⟩).cells (xs.length + 1 - i) ++ Builtin.zeroCells (Value.string ⟨#[]⟩).cells (gc - (xs.length + 1)) := ⟨_, rfl⟩
        rw [← harr]
        have hzs : (Value.string ⟨#[]⟩).cells.size = 1 := rfl
        have hsz : arr.size = gc := by
          rw [harr]
          simp only [Array.size_append, List.size_toArray, List.length_take, List.length_map, size_zeroCells, hzs]
          omega
        have hal : (w0.alloc (.cells arr 9)).drew.heap[w0.heap.size]? = some (.cells arr 9 (0, 0)) := heap_alloc_new w0 _
        obtain ⟨c2, e1, e2, e3⟩ := setCells_heap [Value.string k] i hal
        obtain ⟨c3, f1, f2, f3⟩ := setCells_heap (w := ((w0.alloc (.cells arr 9)).drew.setCells w0.heap.size i [Value.string k]).drew) ((xs.map Value.string).drop i) (i + 1) e1
        refine ⟨_, rfl, .inr ⟨w0.heap.size, 0, gc, c3, by rw [hlen], by omega, f1, by rw [hlen]; omega, hle, by omega, fin 0 arr c2 c3 (by omega) (fun j x hj hx => ?_) e2 (by simpa using e3) (by simpa using f3)⟩, ?_, .inr ⟨_, rfl, show w.heap.size ≤ w0.heap.size by omega⟩⟩
        · rw [harr, Nat.zero_add, Array.append_assoc, Array.getElem?_append_left (by simp; omega), List.getElem?_toArray, List.getElem?_take_of_lt hj, List.getElem?_map, hx]
          rfl
        · have g1 : w0.grownBy (w0.alloc (.cells arr 9)).drew (some g) := ⟨rfl, rfl, rfl, by simp, fun j hj _ => Below.heap_alloc w0 _ j hj⟩
          have g2 := g1.andThen (grownBy_setCells [Value.string k] i _) (fun j e => by cases e; exact .inl (Nat.le_refl _))
          have g3 : w0.grownBy ((w0.alloc (.cells arr 9)).drew.setCells w0.heap.size i [Value.string k]).drew (some g) := ⟨g2.os, g2.tape, g2.output, g2.size, g2.block⟩
          exact (hg0 _).trans (g3.andThen (grownBy_setCells _ _ _) (fun j e => by cases e; exact .inl (Nat.le_refl _)))

/-- How many of a list are below x. -/
def lowB (xs : List ByteArray) (x : ByteArray) : Nat := (xs.filter fun y => decide (ltS y x)).length

theorem low_split : ∀ {xs : List ByteArray} {x : ByteArray}, SRising xs → lowB xs x ≤ xs.length ∧ (∀ j y, xs[j]? = some y → j < lowB xs x → ltS y x) ∧ ∀ j y, xs[j]? = some y → lowB xs x ≤ j → ¬ ltS y x
  | [], x, _ => ⟨by simp [lowB], by simp, by simp⟩
  | z :: xs, x, h => by
    obtain ⟨h1, h2⟩ := List.pairwise_cons.1 h
    obtain ⟨i1, i2, i3⟩ := low_split (x := x) h2
    by_cases hz : ltS z x
    · have hl : lowB (z :: xs) x = lowB xs x + 1 := by simp [lowB, hz]
      rw [hl]
      refine ⟨by simp; omega, fun j y hj hlt => ?_, fun j y hj hle => ?_⟩
      · cases j with
        | zero =>
          simp at hj
          exact hj ▸ hz
        | succ j => exact i2 j y (by simpa using hj) (by omega)
      · cases j with
        | zero => omega
        | succ j => exact i3 j y (by simpa using hj) (by omega)
    · have h0 : ∀ y ∈ xs, ¬ ltS y x := fun y hy hlt => hz (ltS_trans (h1 y hy) hlt)
      have hl : lowB (z :: xs) x = 0 := by
        simp only [lowB, List.length_eq_zero_iff, List.filter_eq_nil_iff]
        intro y hy
        rcases List.mem_cons.1 hy with rfl | hy
        · simpa using hz
        · simpa using h0 y hy
      rw [hl]
      refine ⟨by simp, fun j y hj hlt => by omega, fun j y hj _ => ?_⟩
      have hy := List.mem_of_getElem? hj
      rcases List.mem_cons.1 hy with rfl | hy
      · exact hz
      · exact h0 y hy

theorem ins_rises {xs : List ByteArray} (h : SRising xs) {x : ByteArray} (hx : x ∉ xs) : SRising (xs.take (lowB xs x) ++ x :: xs.drop (lowB xs x)) := by
  obtain ⟨l1, l2, l3⟩ := low_split (x := x) h
  have h' := h
  rw [← List.take_append_drop (lowB xs x) xs] at h'
  obtain ⟨p1, p2, p3⟩ := List.pairwise_append.1 h'
  have hd : ∀ y ∈ xs.drop (lowB xs x), ltS x y := by
    intro y hy
    obtain ⟨j, hj⟩ := List.mem_iff_getElem?.1 hy
    rw [List.getElem?_drop] at hj
    exact ltS_total (l3 _ y hj (by omega)) (fun e => hx (e ▸ List.mem_of_getElem? hj))
  have ht : ∀ y ∈ xs.take (lowB xs x), ltS y x := by
    intro y hy
    obtain ⟨j, hj⟩ := List.mem_iff_getElem?.1 hy
    have hlt : j < lowB xs x := by
      have := (List.getElem?_eq_some_iff.1 hj).1
      rw [List.length_take] at this
      omega
    rw [List.getElem?_take_of_lt hlt] at hj
    exact l2 j y hj hlt
  refine List.pairwise_append.2 ⟨p1, List.pairwise_cons.2 ⟨hd, p2⟩, fun a ha b hb => ?_⟩
  rcases List.mem_cons.1 hb with rfl | hb
  · exact ht a ha
  · exact p3 a ha b hb

theorem ins_mem {xs : List ByteArray} {i : Nat} {x y : ByteArray} : y ∈ xs.take i ++ x :: xs.drop i ↔ y = x ∨ y ∈ xs := by
  conv => rhs; rhs; rw [← List.take_append_drop i xs]
  simp only [List.mem_append, List.mem_cons]
  constructor
  · rintro (h | h | h)
    · exact .inr (.inl h)
    · exact .inl h
    · exact .inr (.inr h)
  · rintro (h | h | h)
    · exact .inr (.inl h)
    · exact .inl h
    · exact .inr (.inr h)

theorem search_q {w : World} {B : Nat} {v : Value} {xs : List ByteArray} (h : QOwn w B 9 v xs) (hr : SRising xs) (hl : xs.length ≤ 1000000) (x : ByteArray) :
    Calls Try.prog 35 #[v, .string x] w fun e w' => ∃ b : Bool, e = .returned (.tuple #[.int .i64 (lowB xs x : Nat), .bool b]) ∧ ∃ q, w' = w.drewN q := by
  obtain ⟨l1, l2, l3⟩ := low_split (x := x) hr
  rcases h with ⟨rfl, rfl⟩ | ⟨g, off, cap, cur, rfl, hb, hg, hcap, hm, hs, hr'⟩
  · refine (Any2.slices_BinarySearch_string_empty Try.laysNm226 none 0 x w).mono ?_
    rintro e w' ⟨rfl, rfl⟩
    exact ⟨false, rfl, 0, rfl⟩
  · have hc := Any2.slices_BinarySearch_string Try.laysNm226 g off xs.length cap (fun j => xs.getD j x) x w (by omega) (fun j hj => by
      have := hr' j xs[j] (List.getElem?_eq_getElem hj)
      simp only [World.cell?, hg, List.getD_eq_getElem?_getD, List.getElem?_eq_getElem hj, Option.getD_some]
      exact this)
    have hgo : Lib.bsGo (fun t => Op.bytesLess (xs.getD t x).toList x.toList) xs.length 0 xs.length = lowB xs x := by
      refine Lib.bsGo_spec _ (lowB xs x) (fun t ht => ?_) (fun t ht => ?_) _ _ _ (by omega) (Nat.zero_le _) l1
      · have htl : t < xs.length := by omega
        rw [List.getD_eq_getElem?_getD, List.getElem?_eq_getElem htl, Option.getD_some, less_eq]
        exact decide_eq_true (l2 t xs[t] (List.getElem?_eq_getElem htl) ht)
      · by_cases htl : t < xs.length
        · rw [List.getD_eq_getElem?_getD, List.getElem?_eq_getElem htl, Option.getD_some, less_eq]
          exact decide_eq_false (l3 t xs[t] (List.getElem?_eq_getElem htl) ht)
        · rw [List.getD_eq_getElem?_getD, List.getElem?_eq_none (by omega), Option.getD_none, less_eq]
          exact decide_eq_false (ltS_irrefl x)
    rw [hgo] at hc
    refine hc.mono ?_
    rintro e w' ⟨rfl, q, rfl⟩
    exact ⟨_, rfl, q, rfl⟩

end Go.Proofs.Ytplgelmfhacjkaa

namespace Go.Proofs.Ytplgelmfhacjkaa
open Go.RowKit Go.Proofs.YtplgelmfhacjkaaW.PrintWords

theorem ready_iff {G : List Ent} (hG : GOk G) {O : List ByteArray} {x : ByteArray} : Ready G O x ↔ x ∈ idsG G ∧ x ∉ O ∧ ∀ p ∈ parG G x, p ∈ O := by
  constructor
  · rintro ⟨e, he, rfl, h1, h2⟩
    obtain ⟨i, hi⟩ := List.mem_iff_getElem?.1 he
    exact ⟨List.mem_map.2 ⟨e, he, rfl⟩, h1, by rw [parG_at hG.nodup hi]; exact h2⟩
  · rintro ⟨h0, h1, h2⟩
    obtain ⟨i, e, hi, rfl⟩ := mem_idsG h0
    rw [parG_at hG.nodup hi] at h2
    exact ⟨e, List.mem_of_getElem? hi, rfl, h1, h2⟩

theorem no_self {G : List Ent} (hG : GOk G) {x : ByteArray} : x ∉ parG G x := by
  intro hx
  have h0 := parG_mem hG hx
  obtain ⟨i, e, hi, rfl⟩ := mem_idsG h0
  rw [parG_at hG.nodup hi] at hx
  obtain ⟨y, hy, he⟩ := List.mem_map.1 (hG.back i e hi _ hx)
  obtain ⟨j, hj⟩ := List.mem_iff_getElem?.1 hy
  have hlt : j < i := by
    have := (List.getElem?_eq_some_iff.1 hj).1
    rw [List.length_take] at this
    omega
  rw [List.getElem?_take_of_lt hlt] at hj
  have h1 : (idsG G)[j]? = some e.1 := by simp [idsG, hj, he]
  have h2 : (idsG G)[i]? = some e.1 := by simp [idsG, hi]
  have := nodup_idx hG.nodup h1 h2
  omega

/-- How many of x's parents have not come yet. -/
def leftN (G : List Ent) (O : List ByteArray) (x : ByteArray) : Nat := ((parG G x).filter fun p => !inB O p).length

theorem leftN_zero {G : List Ent} {O : List ByteArray} {x : ByteArray} : leftN G O x = 0 ↔ ∀ p ∈ parG G x, p ∈ O := by
  unfold leftN
  rw [List.length_eq_zero_iff, List.filter_eq_nil_iff]
  constructor
  · intro h p hp
    have := h p hp
    simp only [Bool.not_eq_true', Bool.not_eq_false] at this
    exact inB_iff.1 this
  · intro h p hp
    simp only [Bool.not_eq_true', Bool.not_eq_false]
    exact inB_iff.2 (h p hp)

theorem leftN_nil (G : List Ent) (x : ByteArray) : leftN G [] x = (parG G x).length := by
  unfold leftN
  rw [List.filter_eq_self.2]
  intro p _
  rfl

theorem inB_snoc (O : List ByteArray) (x p : ByteArray) : inB (O ++ [x]) p = (inB O p || decide (x = p)) := by
  unfold inB
  rw [List.any_append]
  simp

theorem filter_snoc : ∀ {l : List ByteArray} {O : List ByteArray} {x : ByteArray}, l.Nodup → x ∉ O →
    (l.filter fun p => !inB O p).length = (l.filter fun p => !inB (O ++ [x]) p).length + onB l x
  | [], O, x, _, _ => rfl
  | y :: l, O, x, hn, hx => by
    obtain ⟨h1, h2⟩ := List.nodup_cons.1 hn
    have ih := filter_snoc h2 hx
    by_cases hy : x = y
    · subst hy
      have hb : inB O x = false := by
        cases hh : inB O x
        · rfl
        · exact absurd (inB_iff.1 hh) hx
      have hc : inB (O ++ [x]) x = true := inB_iff.2 (by simp)
      have ho : onB (x :: l) x = 1 := by unfold onB; rw [if_pos (inB_iff.2 (by simp))]
      have ho' : onB l x = 0 := by unfold onB; rw [if_neg (fun h => h1 (inB_iff.1 h))]
      rw [List.filter_cons_of_pos (by simp [hb]), List.filter_cons_of_neg (by simp [hc]), List.length_cons, ih, ho, ho']
    · have hb : inB (O ++ [x]) y = inB O y := by rw [inB_snoc]; simp [hy]
      have hm : onB (y :: l) x = onB l x := by
        unfold onB
        rw [inB_cons]
        rw [decide_eq_false (fun h : y = x => hy h.symm), Bool.false_or]
      by_cases ho : inB O y = true
      · rw [List.filter_cons_of_neg (by simp [ho]), List.filter_cons_of_neg (by simp [hb, ho]), ih, hm]
      · rw [List.filter_cons_of_pos (by simpa using ho), List.filter_cons_of_pos (by rw [hb]; simpa using ho), List.length_cons, List.length_cons, ih, hm]
        omega

theorem leftN_snoc {G : List Ent} (hG : GOk G) {O : List ByteArray} {x : ByteArray} (hx : x ∉ O) (y : ByteArray) : leftN G O y = leftN G (O ++ [x]) y + onB (parG G y) x :=
  filter_snoc (srising_nodup (parG_rise hG y)) hx

/-- Between two that are told: O has been told, R may come, rising. -/
structure OrdI (G : List Ent) (O R : List ByteArray) : Prop where
  nodup : O.Nodup
  sub : ∀ x ∈ O, x ∈ idsG G
  ord : ∀ (i : Nat) (x : ByteArray), O[i]? = some x → Ready G (O.take i) x ∧ ∀ y, Ready G (O.take i) y → y = x ∨ ltS x y
  rise : SRising R
  ready : ∀ y, y ∈ R ↔ Ready G O y

/-- x's kids. -/
structure Kids (G : List Ent) (x : ByteArray) (K : List ByteArray) : Prop where
  nodup : K.Nodup
  mem : ∀ y, y ∈ K ↔ y ∈ idsG G ∧ x ∈ parG G y

/-- Between two kids of x, which has just been told: j of them have been looked at. -/
structure InI (G : List Ent) (O : List ByteArray) (x : ByteArray) (R K : List ByteArray) (j : Nat) (Rj : List ByteArray) : Prop where
  rise : SRising Rj
  mem : ∀ y, y ∈ Rj ↔ y ∈ R ∨ (y ∈ K.take j ∧ ∀ p ∈ parG G y, p ∈ O ++ [x])

theorem OrdI.start {G : List Ent} (hG : GOk G) {R : List ByteArray} (hs : SRising R) (hm : ∀ y, y ∈ R ↔ y ∈ idsG G ∧ parG G y = []) : OrdI G [] R :=
  ⟨List.nodup_nil, by simp, by simp, hs, fun y => by
    rw [hm y, ready_iff hG]
    constructor
    · rintro ⟨h1, h2⟩
      exact ⟨h1, by simp, by rw [h2]; simp⟩
    · rintro ⟨h1, _, h2⟩
      refine ⟨h1, ?_⟩
      cases hp : parG G y with
      | nil => rfl
      | cons z l => rw [hp] at h2; exact absurd (h2 z (by simp)) (by simp)⟩

theorem OrdI.closed {G : List Ent} (hG : GOk G) {O R : List ByteArray} (h : OrdI G O R) {y p : ByteArray} (hy : y ∈ O) (hp : p ∈ parG G y) : p ∈ O := by
  obtain ⟨i, hi⟩ := List.mem_iff_getElem?.1 hy
  exact List.mem_of_mem_take (((ready_iff hG).1 (h.ord i y hi).1).2.2 p hp)

theorem OrdI.len {G : List Ent} {O R : List ByteArray} (h : OrdI G O R) : O.length ≤ G.length := by
  have := nodup_sub h.nodup h.sub
  simpa [idsG] using this

theorem InI.start {G : List Ent} {O : List ByteArray} {x : ByteArray} {R K : List ByteArray} (h : OrdI G O (x :: R)) : InI G O x R K 0 R :=
  ⟨(List.pairwise_cons.1 h.rise).2, fun y => by simp⟩

/-- What is to come at a kid: whether all its parents have come. -/
theorem InI.skip {G : List Ent} {O : List ByteArray} {x : ByteArray} {R K : List ByteArray} {j : Nat} {Rj : List ByteArray} (h : InI G O x R K j Rj) {y : ByteArray} (hj : K[j]? = some y) (hn : ¬ ∀ p ∈ parG G y, p ∈ O ++ [x]) : InI G O x R K (j + 1) Rj := by
  have hlt := (List.getElem?_eq_some_iff.1 hj).1
  refine ⟨h.rise, fun z => ?_⟩
  rw [h.mem z, List.take_succ_eq_append_getElem hlt]
  rw [List.getElem?_eq_getElem hlt] at hj
  cases hj
  constructor
  · rintro (h1 | ⟨h1, h2⟩)
    · exact .inl h1
    · exact .inr ⟨List.mem_append.2 (.inl h1), h2⟩
  · rintro (h1 | ⟨h1, h2⟩)
    · exact .inl h1
    · rcases List.mem_append.1 h1 with h1 | h1
      · exact .inr ⟨h1, h2⟩
      · rw [List.mem_singleton.1 h1] at h2
        exact absurd h2 hn

theorem InI.new {G : List Ent} (hG : GOk G) {O : List ByteArray} {x : ByteArray} {R K : List ByteArray} {j : Nat} {Rj : List ByteArray} (ho : OrdI G O (x :: R)) (hk : Kids G x K) (h : InI G O x R K j Rj) {y : ByteArray} (hj : K[j]? = some y) : y ∉ Rj := by
  intro hy
  rcases (h.mem y).1 hy with h1 | ⟨h1, _⟩
  · have hr := (ready_iff hG).1 ((ho.ready y).1 (by simp [h1]))
    have hx := (ready_iff hG).1 ((ho.ready x).1 (by simp))
    exact hx.2.1 (hr.2.2 x ((hk.mem y).1 (List.mem_of_getElem? hj)).2)
  · obtain ⟨i, hi⟩ := List.mem_iff_getElem?.1 h1
    have hij : i < j := by
      have := (List.getElem?_eq_some_iff.1 hi).1
      rw [List.length_take] at this
      omega
    rw [List.getElem?_take_of_lt hij] at hi
    have := nodup_idx hk.nodup hi hj
    omega

theorem InI.put {G : List Ent} {O : List ByteArray} {x : ByteArray} {R K : List ByteArray} {j : Nat} {Rj Rn : List ByteArray} (h : InI G O x R K j Rj) {y : ByteArray} (hj : K[j]? = some y) (hp : ∀ p ∈ parG G y, p ∈ O ++ [x]) (hs : SRising Rn) (hm : ∀ z, z ∈ Rn ↔ z = y ∨ z ∈ Rj) : InI G O x R K (j + 1) Rn := by
  have hlt := (List.getElem?_eq_some_iff.1 hj).1
  refine ⟨hs, fun z => ?_⟩
  rw [hm z, h.mem z, List.take_succ_eq_append_getElem hlt]
  rw [List.getElem?_eq_getElem hlt] at hj
  cases hj
  constructor
  · rintro (rfl | h1 | ⟨h1, h2⟩)
    · exact .inr ⟨List.mem_append.2 (.inr (List.mem_singleton.2 rfl)), hp⟩
    · exact .inl h1
    · exact .inr ⟨List.mem_append.2 (.inl h1), h2⟩
  · rintro (h1 | ⟨h1, h2⟩)
    · exact .inr (.inl h1)
    · rcases List.mem_append.1 h1 with h1 | h1
      · exact .inr (.inr ⟨h1, h2⟩)
      · exact .inl (List.mem_singleton.1 h1)

theorem InI.done {G : List Ent} (hG : GOk G) {O : List ByteArray} {x : ByteArray} {R K : List ByteArray} {Rj : List ByteArray} (ho : OrdI G O (x :: R)) (hk : Kids G x K) (h : InI G O x R K K.length Rj) : OrdI G (O ++ [x]) Rj := by
  have hx := (ready_iff hG).1 ((ho.ready x).1 (by simp))
  have hxR : ∀ y ∈ R, ltS x y := (List.pairwise_cons.1 ho.rise).1
  refine ⟨?_, ?_, ?_, h.rise, fun y => ?_⟩
  · exact List.nodup_append.2 ⟨ho.nodup, by simp, fun a ha b hb e => hx.2.1 (by rw [List.mem_singleton.1 hb] at e; exact e ▸ ha)⟩
  · intro y hy
    rcases List.mem_append.1 hy with hy | hy
    · exact ho.sub y hy
    · rw [List.mem_singleton.1 hy]
      exact hx.1
  · intro i y hi
    by_cases hlt : i < O.length
    · rw [List.getElem?_append_left hlt] at hi
      rw [List.take_append_of_le_length (by omega)]
      exact ho.ord i y hi
    · have hl := (List.getElem?_eq_some_iff.1 hi).1
      simp at hl
      obtain rfl : i = O.length := by omega
      rw [List.getElem?_append_right (Nat.le_refl _)] at hi
      simp at hi
      subst hi
      rw [List.take_left]
      refine ⟨(ho.ready x).1 (by simp), fun z hz => ?_⟩
      rcases List.mem_cons.1 ((ho.ready z).2 hz) with e | hz
      · exact .inl e
      · exact .inr (hxR z hz)
  · rw [h.mem y, ready_iff hG, List.take_length]
    constructor
    · rintro (h1 | ⟨h1, h2⟩)
      · have hr := (ready_iff hG).1 ((ho.ready y).1 (by simp [h1]))
        refine ⟨hr.1, fun hm => ?_, fun p hp => by simp [hr.2.2 p hp]⟩
        rcases List.mem_append.1 hm with hm | hm
        · exact hr.2.1 hm
        · have := hxR y h1
          rw [List.mem_singleton.1 hm] at this
          exact ltS_irrefl x this
      · have hky := (hk.mem y).1 h1
        refine ⟨hky.1, fun hm => ?_, h2⟩
        rcases List.mem_append.1 hm with hm | hm
        · exact hx.2.1 (ho.closed hG hm hky.2)
        · rw [List.mem_singleton.1 hm] at hky
          exact no_self hG hky.2
    · rintro ⟨h1, h2, h3⟩
      by_cases hxy : x ∈ parG G y
      · exact .inr ⟨(hk.mem y).2 ⟨h1, hxy⟩, h3⟩
      · have hr : Ready G O y := (ready_iff hG).2 ⟨h1, fun hm => h2 (by simp [hm]), fun p hp => by
          rcases List.mem_append.1 (h3 p hp) with hm | hm
          · exact hm
          · exact absurd (List.mem_singleton.1 hm ▸ hp) hxy⟩
        rcases List.mem_cons.1 ((ho.ready y).2 hr) with e | hm
        · exact absurd (by simp [e]) h2
        · exact .inl hm

theorem OrdI.all {G : List Ent} (hG : GOk G) {O : List ByteArray} (h : OrdI G O []) : IsOrd G O := by
  have key : ∀ (n : Nat) (e : Ent), G[n]? = some e → e.1 ∈ O := by
    intro n
    induction n using Nat.strongRecOn with
    | _ n ih =>
      intro e he
      by_cases hm : e.1 ∈ O
      · exact hm
      · have hr : Ready G O e.1 := ⟨e, List.mem_of_getElem? he, rfl, hm, fun p hp => by
          obtain ⟨y, hy, rfl⟩ := List.mem_map.1 (hG.back n e he p hp)
          obtain ⟨j, hj⟩ := List.mem_iff_getElem?.1 hy
          have hlt : j < n := by
            have := (List.getElem?_eq_some_iff.1 hj).1
            rw [List.length_take] at this
            omega
          rw [List.getElem?_take_of_lt hlt] at hj
          exact ih j hlt y hj⟩
        exact absurd ((h.ready e.1).2 hr) (by simp)
  refine ⟨?_, h.ord⟩
  have h1 := h.len
  have h2 := nodup_sub (m := O) hG.nodup fun x hx => by
    obtain ⟨i, e, hi, rfl⟩ := mem_idsG hx
    exact key i e hi
  simp [idsG] at h2
  omega

end Go.Proofs.Ytplgelmfhacjkaa

namespace Go.Proofs.Ytplgelmfhacjkaa
open Go.RowKit Go.Proofs.YtplgelmfhacjkaaW.PrintWords

def kv (mk : List (ByteArray × Value)) (p : ByteArray) : Value := (mget mk p).getD (.slice none 0 0)

theorem kv_put (mk : List (ByteArray × Value)) (p : ByteArray) (v : Value) (q : ByteArray) : kv (mput mk p v) q = if q = p then v else kv mk q := by
  unfold kv
  rw [mget_mput]
  by_cases h : q = p <;> simp [h]

/-- A map of rows, each in a block of its own. -/
structure KMap (w : World) (B c : Nat) (mk : List (ByteArray × Value)) (kl : ByteArray → List ByteArray) : Prop where
  map : MapL w c mk
  own : ∀ p, w.ownsRow B 9 1 (kv mk p) (kl p).length ((kl p).map Value.string)
  sep : ∀ p q g, p ≠ q → (kv mk p).ownBlock = some g → (kv mk q).ownBlock ≠ some g

theorem KMap.move {w w' : World} {B c : Nat} {mk : List (ByteArray × Value)} {kl : ByteArray → List ByteArray} (h : KMap w B c mk kl) (hc : w'.heap[c]? = w.heap[c]?) (hm : ∀ p g, (kv mk p).ownBlock = some g → w'.heap[g]? = w.heap[g]?) : KMap w' B c mk kl :=
  ⟨h.map.move hc, fun p => own_move (h.own p) fun g _ hg _ => hm p g hg, h.sep⟩

def addK (kl : ByteArray → List ByteArray) (p id : ByteArray) : ByteArray → List ByteArray := fun q => if q = p then kl p ++ [id] else kl q

theorem KMap.put {w w2 w3 : World} {B c : Nat} {mk : List (ByteArray × Value)} {kl : ByteArray → List ByteArray} (h : KMap w B c mk kl) (hcB : c < B) {o : Obj} {p id : ByteArray} {v' : Value}
    (hown : w2.ownsRow B 9 1 v' (kl p ++ [id]).length ((kl p ++ [id]).map Value.string)) (hg : (w.alloc o).grownBy w2 (kv mk p).ownBlock) (hat : v'.ownBlock = (kv mk p).ownBlock ∨ v'.ownBlock = some (w.alloc o).heap.size)
    (hm : MapL w3 c (mput mk p v')) (hg3 : w2.grownBy w3 (some c)) : KMap w3 B c (mput mk p v') (addK kl p id) := by
  have hkeep : ∀ k, k < w.heap.size → some k ≠ (kv mk p).ownBlock → k ≠ c → w3.heap[k]? = w.heap[k]? := fun k hk hne hc =>
    (hg3.block k (by have := hg.size; rw [asz] at this; omega) (fun e => hc (Option.some.inj e))).trans ((hg.block k (by rw [asz]; omega) hne).trans (Below.heap_alloc _ _ k hk))
  refine ⟨hm, fun q => ?_, fun q q' g hne hq => ?_⟩
  · rw [kv_put]
    unfold addK
    by_cases e : q = p
    · subst e
      rw [if_pos rfl, if_pos rfl]
      exact own_move hown fun g _ hg' _ => hg3.block g (hown.lt g hg').2 (fun e => by have := (hown.lt g hg').1; have := Option.some.inj e; omega)
    · rw [if_neg e, if_neg e]
      refine own_move (h.own q) fun g _ hg' _ => hkeep g ((h.own q).lt g hg').2 (fun e' => h.sep q p g e hg' e'.symm) ?_
      have := ((h.own q).lt g hg').1
      omega
  · rw [kv_put] at hq ⊢
    by_cases e : q = p
    · rw [if_pos e] at hq
      rw [if_neg (fun e' => hne (e.trans e'.symm))]
      rcases hat with ha | ha
      · rw [ha] at hq
        exact fun h' => h.sep p q' g (fun e' => hne (e.trans e')) hq h'
      · rw [ha] at hq
        intro h'
        have := ((h.own q').lt g h').2
        have := Option.some.inj hq
        rw [asz] at this
        omega
    · rw [if_neg e] at hq
      by_cases e' : q' = p
      · rw [if_pos e']
        rcases hat with ha | ha
        · rw [ha]
          exact h.sep q p g e hq
        · rw [ha]
          intro h'
          have := ((h.own q).lt g hq).2
          have := Option.some.inj h'
          rw [asz] at this
          omega
      · rw [if_neg e']
        exact h.sep q q' g hne hq

/-- While the entries are read. -/
structure O1 (w wr : World) (a : Nat) (m left ml mk : List (ByteArray × Value)) (kl : ByteArray → List ByteArray) (v5 : Value) (rl : List ByteArray) : Prop where
  rng : RangeL wr (w.heap.size + 2) a m left
  mL : MapL wr w.heap.size ml
  mK : KMap wr (w.heap.size + 3) (w.heap.size + 1) mk kl
  own : wr.ownsRow (w.heap.size + 3) 9 1 v5 rl.length (rl.map Value.string)
  sep : ∀ p g, (kv mk p).ownBlock = some g → v5.ownBlock ≠ some g
  bel : Below w.heap.size w wr
  al : a < w.heap.size

theorem O1.lt {w wr : World} {a : Nat} {m left ml mk : List (ByteArray × Value)} {kl : ByteArray → List ByteArray} {v5 : Value} {rl : List ByteArray} (h : O1 w wr a m left ml mk kl v5 rl) : w.heap.size + 2 < wr.heap.size := h.rng.lt

/-- kids[p] = append(kids[p], id). -/
theorem O1.kid {w wr : World} {a : Nat} {m left ml mk : List (ByteArray × Value)} {kl : ByteArray → List ByteArray} {v5 : Value} {rl : List ByteArray} (h : O1 w wr a m left ml mk kl v5 rl) {o : Obj} {p id : ByteArray} {v' : Value} {w2 w3 : World}
    (hown : w2.ownsRow (w.heap.size + 3) 9 1 v' (kl p ++ [id]).length ((kl p ++ [id]).map Value.string)) (hg : (wr.alloc o).grownBy w2 (kv mk p).ownBlock) (hat : v'.ownBlock = (kv mk p).ownBlock ∨ v'.ownBlock = some (wr.alloc o).heap.size)
    (hm : MapL w3 (w.heap.size + 1) (mput mk p v')) (hg3 : w2.grownBy w3 (some (w.heap.size + 1))) : O1 w w3 a m left ml (mput mk p v') (addK kl p id) v5 rl := by
  have hlt := h.lt
  have hpo := h.mK.own p
  have hkeep : ∀ k, k < wr.heap.size → some k ≠ (kv mk p).ownBlock → k ≠ w.heap.size + 1 → w3.heap[k]? = wr.heap[k]? := fun k hk hne hc =>
    (hg3.block k (by have := hg.size; rw [asz] at this; omega) (fun e => hc (Option.some.inj e))).trans ((hg.block k (by rw [asz]; omega) hne).trans (Below.heap_alloc _ _ k hk))
  have hlow : ∀ k, k ≤ w.heap.size + 2 → k ≠ w.heap.size + 1 → w3.heap[k]? = wr.heap[k]? := fun k hk hc => hkeep k (by omega) (fun e => by have := (hpo.lt k e.symm).1; omega) hc
  refine ⟨h.rng.move (hlow _ (by omega) (by omega)) (hlow _ (by have := h.al; omega) (by have := h.al; omega)), h.mL.move (hlow _ (by omega) (by omega)), h.mK.put (by omega) hown hg hat hm hg3, ?_, ?_, ?_, h.al⟩
  · exact own_move h.own fun g _ hg' _ => hkeep g (h.own.lt g hg').2 (fun e => h.sep p g e.symm hg') (by have := (h.own.lt g hg').1; omega)
  · intro q g hq
    rw [kv_put] at hq
    by_cases e : q = p
    · rw [if_pos e] at hq
      rcases hat with ha | ha
      · rw [ha] at hq
        exact h.sep p g hq
      · rw [ha] at hq
        intro h'
        have := (h.own.lt g h').2
        have := Option.some.inj hq
        rw [asz] at this
        omega
    · rw [if_neg e] at hq
      exact h.sep q g hq
  · have b1 := (h.bel.alloc h.bel.size o).grown hg (by rw [asz]; omega) (fun k e => by have := (hpo.lt k e).1; omega)
    exact b1.grown hg3 (by have := hg.size; rw [asz] at this; omega) (fun k e => by have := Option.some.inj e; omega)

/-- left[x] = .. -/
theorem O1.setL {w wr : World} {a : Nat} {m left ml mk : List (ByteArray × Value)} {kl : ByteArray → List ByteArray} {v5 : Value} {rl : List ByteArray} (h : O1 w wr a m left ml mk kl v5 rl) {ml' : List (ByteArray × Value)} {w2 : World}
    (hm : MapL w2 w.heap.size ml') (hg : wr.grownBy w2 (some w.heap.size)) : O1 w w2 a m left ml' mk kl v5 rl := by
  have hlt := h.lt
  have hkeep : ∀ k, k < wr.heap.size → k ≠ w.heap.size → w2.heap[k]? = wr.heap[k]? := fun k hk hc => hg.block k hk (fun e => hc (Option.some.inj e))
  refine ⟨h.rng.move (hkeep _ (by omega) (by omega)) (hkeep _ (by have := h.al; omega) (by have := h.al; omega)), hm, h.mK.move (hkeep _ (by omega) (by omega)) (fun p g hg' => ?_), own_move h.own (fun g _ hg' _ => ?_), h.sep, ?_, h.al⟩
  · have := (h.mK.own p).lt g hg'
    exact hkeep g this.2 (by omega)
  · have := h.own.lt g hg'
    exact hkeep g this.2 (by omega)
  · exact h.bel.grown hg (by omega) (fun k e => by have := Option.some.inj e; omega)

/-- ready = append(ready, x). -/
theorem O1.rdy {w wr : World} {a : Nat} {m left ml mk : List (ByteArray × Value)} {kl : ByteArray → List ByteArray} {v5 : Value} {rl : List ByteArray} (h : O1 w wr a m left ml mk kl v5 rl) {o : Obj} {rl' : List ByteArray} {v' : Value} {w2 : World}
    (hown : w2.ownsRow (w.heap.size + 3) 9 1 v' rl'.length (rl'.map Value.string)) (hg : (wr.alloc o).grownBy w2 v5.ownBlock) (hat : v'.ownBlock = v5.ownBlock ∨ v'.ownBlock = some (wr.alloc o).heap.size) : O1 w w2 a m left ml mk kl v' rl' := by
  have hlt := h.lt
  have hkeep : ∀ k, k < wr.heap.size → some k ≠ v5.ownBlock → w2.heap[k]? = wr.heap[k]? := fun k hk hne => (hg.block k (by rw [asz]; omega) hne).trans (Below.heap_alloc _ _ k hk)
  have hlow : ∀ k, k ≤ w.heap.size + 2 → w2.heap[k]? = wr.heap[k]? := fun k hk => hkeep k (by omega) (fun e => by have := (h.own.lt k e.symm).1; omega)
  refine ⟨h.rng.move (hlow _ (by omega)) (hlow _ (by have := h.al; omega)), h.mL.move (hlow _ (by omega)), h.mK.move (hlow _ (by omega)) (fun p g hg' => ?_), hown, fun p g hq => ?_, ?_, h.al⟩
  · exact hkeep g ((h.mK.own p).lt g hg').2 (fun e => h.sep p g hg' e.symm)
  · rcases hat with ha | ha
    · rw [ha]
      exact h.sep p g hq
    · rw [ha]
      intro h'
      have := ((h.mK.own p).lt g hq).2
      have := Option.some.inj h'
      rw [asz] at this
      omega
  · exact (h.bel.alloc h.bel.size o).grown hg (by rw [asz]; omega) (fun k e => by have := (h.own.lt k e).1; omega)

/-- The next entry. -/
theorem O1.next {w wr w2 : World} {a : Nat} {m left left' ml mk : List (ByteArray × Value)} {kl : ByteArray → List ByteArray} {v5 : Value} {rl : List ByteArray} (h : O1 w wr a m left ml mk kl v5 rl)
    (hr : RangeL w2 (w.heap.size + 2) a m left') (hf : Fr (fun k => k = w.heap.size + 2) wr w2) : O1 w w2 a m left' ml mk kl v5 rl := by
  have hlt := h.lt
  have hkeep : ∀ k, k < wr.heap.size → k ≠ w.heap.size + 2 → w2.heap[k]? = wr.heap[k]? := fun k hk hc => hf.block k hk hc
  refine ⟨hr, h.mL.move (hkeep _ (by omega) (by omega)), h.mK.move (hkeep _ (by omega) (by omega)) (fun p g hg' => ?_), own_move h.own (fun g _ hg' _ => ?_), h.sep, ?_, h.al⟩
  · have := (h.mK.own p).lt g hg'
    exact hkeep g this.2 (by omega)
  · have := h.own.lt g hg'
    exact hkeep g this.2 (by omega)
  · exact h.bel.trans (hf.to_below (by omega) (fun k hk e => by omega))

end Go.Proofs.Ytplgelmfhacjkaa

namespace Go.Proofs.Ytplgelmfhacjkaa
open Go.RowKit Go.Proofs.YtplgelmfhacjkaaW.PrintWords

theorem QOwn.lo {w : World} {B : Nat} {e : TypeId} {v : Value} {xs : List ByteArray} (h : QOwn w B e v xs) {g : Nat} (hg : v.ownBlock = some g) : B ≤ g ∧ g < w.heap.size := h.lt hg

theorem sliced_own (A : Option Addr) (n c : Nat) : (sliced A 1 n c 1).ownBlock = (Value.slice A n c).ownBlock := by
  cases A with
  | none => unfold sliced; split <;> rfl
  | some a =>
    unfold sliced
    split
    · rfl
    · simp only [Option.map_some, Value.ownBlock, add_block]

/-- While the entries are told. -/
structure O3 (w wr : World) (ml mk : List (ByteArray × Value)) (kl : ByteArray → List ByteArray) (v5 v6 : Value) (R O : List ByteArray) : Prop where
  mL : MapL wr w.heap.size ml
  mK : KMap wr (w.heap.size + 3) (w.heap.size + 1) mk kl
  rdy : QOwn wr (w.heap.size + 3) 9 v5 R
  out : wr.ownsRow (w.heap.size + 3) 9 1 v6 O.length (O.map Value.string)
  s5 : ∀ p g, (kv mk p).ownBlock = some g → v5.ownBlock ≠ some g
  s6 : ∀ p g, (kv mk p).ownBlock = some g → v6.ownBlock ≠ some g
  s56 : ∀ g, v5.ownBlock = some g → v6.ownBlock ≠ some g
  bel : Below w.heap.size w wr
  lt : w.heap.size + 2 < wr.heap.size

/-- ready = ready[1:] -/
theorem O3.pop {w wr : World} {ml mk : List (ByteArray × Value)} {kl : ByteArray → List ByteArray} {A : Option Addr} {n c : Nat} {v6 : Value} {x : ByteArray} {R O : List ByteArray} (h : O3 w wr ml mk kl (.slice A n c) v6 (x :: R) O) : O3 w wr ml mk kl (sliced A 1 n c 1) v6 R O :=
  ⟨h.mL, h.mK, h.rdy.tail, h.out, fun p g hg => by rw [sliced_own]; exact h.s5 p g hg, h.s6, fun g hg => h.s56 g (by rw [← sliced_own]; exact hg), h.bel, h.lt⟩

/-- out = append(out, x) -/
theorem O3.tell {w wr : World} {ml mk : List (ByteArray × Value)} {kl : ByteArray → List ByteArray} {v5 v6 v' : Value} {R O O' : List ByteArray} (h : O3 w wr ml mk kl v5 v6 R O) {o : Obj} {w2 : World}
    (hown : w2.ownsRow (w.heap.size + 3) 9 1 v' O'.length (O'.map Value.string)) (hg : (wr.alloc o).grownBy w2 v6.ownBlock) (hat : v'.ownBlock = v6.ownBlock ∨ v'.ownBlock = some (wr.alloc o).heap.size) : O3 w w2 ml mk kl v5 v' R O' := by
  have hlt := h.lt
  have hkeep : ∀ k, k < wr.heap.size → some k ≠ v6.ownBlock → w2.heap[k]? = wr.heap[k]? := fun k hk hne => (hg.block k (by rw [asz]; omega) hne).trans (Below.heap_alloc _ _ k hk)
  have hlow : ∀ k, k ≤ w.heap.size + 2 → w2.heap[k]? = wr.heap[k]? := fun k hk => hkeep k (by omega) (fun e => by have := (h.out.lt k e.symm).1; omega)
  have hs := hg.size
  rw [asz] at hs
  refine ⟨h.mL.move (hlow _ (by omega)), h.mK.move (hlow _ (by omega)) (fun p g hg' => ?_), h.rdy.move (fun g hg' => ?_), hown, h.s5, fun p g hq => ?_, fun g hq => ?_, ?_, by omega⟩
  · exact hkeep g ((h.mK.own p).lt g hg').2 (fun e => h.s6 p g hg' e.symm)
  · exact hkeep g (h.rdy.lt hg').2 (fun e => h.s56 g hg' e.symm)
  · rcases hat with ha | ha
    · rw [ha]
      exact h.s6 p g hq
    · rw [ha]
      intro h'
      have := ((h.mK.own p).lt g hq).2
      have := Option.some.inj h'
      rw [asz] at this
      omega
  · rcases hat with ha | ha
    · rw [ha]
      exact h.s56 g hq
    · rw [ha]
      intro h'
      have := (h.rdy.lt hq).2
      have := Option.some.inj h'
      rw [asz] at this
      omega
  · exact (h.bel.alloc h.bel.size o).grown hg (by rw [asz]; omega) (fun k e => by have := (h.out.lt k e).1; omega)

/-- left[x]-- -/
theorem O3.setL {w wr : World} {ml mk ml' : List (ByteArray × Value)} {kl : ByteArray → List ByteArray} {v5 v6 : Value} {R O : List ByteArray} (h : O3 w wr ml mk kl v5 v6 R O) {w2 : World}
    (hm : MapL w2 w.heap.size ml') (hg : wr.grownBy w2 (some w.heap.size)) : O3 w w2 ml' mk kl v5 v6 R O := by
  have hlt := h.lt
  have hs := hg.size
  have hkeep : ∀ k, k < wr.heap.size → k ≠ w.heap.size → w2.heap[k]? = wr.heap[k]? := fun k hk hc => hg.block k hk (fun e => hc (Option.some.inj e))
  refine ⟨hm, h.mK.move (hkeep _ (by omega) (by omega)) (fun p g hg' => ?_), h.rdy.move (fun g hg' => ?_), own_move h.out (fun g _ hg' _ => ?_), h.s5, h.s6, h.s56, ?_, by omega⟩
  · have := (h.mK.own p).lt g hg'
    exact hkeep g this.2 (by omega)
  · have := h.rdy.lt hg'
    exact hkeep g this.2 (by omega)
  · have := h.out.lt g hg'
    exact hkeep g this.2 (by omega)
  · exact h.bel.grown hg (by omega) (fun k e => by have := Option.some.inj e; omega)

theorem O3.drewN {w wr : World} {ml mk : List (ByteArray × Value)} {kl : ByteArray → List ByteArray} {v5 v6 : Value} {R O : List ByteArray} (h : O3 w wr ml mk kl v5 v6 R O) (q : Nat) : O3 w (wr.drewN q) ml mk kl v5 v6 R O :=
  ⟨h.mL.move rfl, h.mK.move rfl (fun _ _ _ => rfl), h.rdy.move (fun _ _ => rfl), own_move h.out (fun _ _ _ _ => rfl), h.s5, h.s6, h.s56, h.bel.trans ⟨rfl, rfl, rfl, Nat.le_refl _, fun _ _ => rfl⟩, h.lt⟩

/-- ready = slices.Insert(ready, at, x) -/
theorem O3.ins {w wr : World} {ml mk : List (ByteArray × Value)} {kl : ByteArray → List ByteArray} {v5 v6 v' : Value} {R O : List ByteArray} (h : O3 w wr ml mk kl v5 v6 R O) {w2 : World} {i : Nat} {x : ByteArray}
    (hi : Inserted wr w2 (w.heap.size + 3) v5 v' R i x) : O3 w w2 ml mk kl v' v6 (R.take i ++ x :: R.drop i) O := by
  obtain ⟨hq, hg, hat⟩ := hi
  have hlt := h.lt
  have hs := hg.size
  have hkeep : ∀ k, k < wr.heap.size → some k ≠ v5.ownBlock → w2.heap[k]? = wr.heap[k]? := fun k hk hne => hg.block k hk hne
  have hlow : ∀ k, k ≤ w.heap.size + 2 → w2.heap[k]? = wr.heap[k]? := fun k hk => hkeep k (by omega) (fun e => by have := (h.rdy.lt e.symm).1; omega)
  refine ⟨h.mL.move (hlow _ (by omega)), h.mK.move (hlow _ (by omega)) (fun p g hg' => ?_), hq, own_move h.out (fun g _ hg' _ => ?_), fun p g hp => ?_, h.s6, fun g hp => ?_, ?_, by omega⟩
  · exact hkeep g ((h.mK.own p).lt g hg').2 (fun e => h.s5 p g hg' e.symm)
  · exact hkeep g (h.out.lt g hg').2 (fun e => h.s56 g e.symm hg')
  · rcases hat with ha | ⟨g', ha, hge⟩
    · rw [ha]
      exact h.s5 p g hp
    · rw [ha]
      intro h'
      have := ((h.mK.own p).lt g hp).2
      have := Option.some.inj h'
      omega
  · rcases hat with ha | ⟨g', ha, hge⟩
    · rw [ha] at hp
      exact h.s56 g hp
    · rw [ha] at hp
      intro h'
      have := (h.out.lt g h').2
      have := Option.some.inj hp
      omega
  · exact h.bel.grown hg (by omega) (fun k e => by have := (h.rdy.lt e).1; omega)

/-- What has been counted when the entries of 'done' have been read. -/
structure C1 (G : List Ent) (done ml : List (ByteArray × Value)) (kl : ByteArray → List ByteArray) (rl : List ByteArray) : Prop where
  left : ∀ x ∈ done.map (·.1), (mget ml x).getD (.int .i64 0) = .int .i64 ((parG G x).length : Nat)
  knd : ∀ p, (kl p).Nodup
  kmem : ∀ p x, x ∈ kl p ↔ x ∈ done.map (·.1) ∧ p ∈ parG G x
  rnd : rl.Nodup
  rmem : ∀ x, x ∈ rl ↔ x ∈ done.map (·.1) ∧ parG G x = []

theorem C1.start (G : List Ent) (ml : List (ByteArray × Value)) : C1 G [] ml (fun _ => []) [] :=
  ⟨by simp, by simp, by simp, by simp, by simp⟩

/-- .. and of one more's parents the first j. -/
structure C2 (G : List Ent) (done : List (ByteArray × Value)) (id : ByteArray) (j : Nat) (kl : ByteArray → List ByteArray) : Prop where
  knd : ∀ p, (kl p).Nodup
  kmem : ∀ p x, x ∈ kl p ↔ (x ∈ done.map (·.1) ∧ p ∈ parG G x) ∨ (x = id ∧ p ∈ (parG G id).take j)

theorem C1.start2 {G : List Ent} {done ml : List (ByteArray × Value)} {kl : ByteArray → List ByteArray} {rl : List ByteArray} (h : C1 G done ml kl rl) (id : ByteArray) : C2 G done id 0 kl :=
  ⟨h.knd, fun p x => by rw [h.kmem p x]; simp⟩

theorem C2.step {G : List Ent} {done : List (ByteArray × Value)} {id : ByteArray} {j : Nat} {kl : ByteArray → List ByteArray} (h : C2 G done id j kl) (hG : GOk G) (hid : id ∉ done.map (·.1)) {p : ByteArray} (hj : (parG G id)[j]? = some p) : C2 G done id (j + 1) (addK kl p id) := by
  have hlt := (List.getElem?_eq_some_iff.1 hj).1
  have hpe : (parG G id)[j] = p := by
    rw [List.getElem?_eq_getElem hlt] at hj
    exact Option.some.inj hj
  have hnp : p ∉ (parG G id).take j := by
    intro hm
    obtain ⟨i, hi⟩ := List.mem_iff_getElem?.1 hm
    have hij : i < j := by
      have := (List.getElem?_eq_some_iff.1 hi).1
      rw [List.length_take] at this
      omega
    rw [List.getElem?_take_of_lt hij] at hi
    have := nodup_idx (srising_nodup (parG_rise hG id)) hi hj
    omega
  refine ⟨fun q => ?_, fun q x => ?_⟩
  · unfold addK
    by_cases e : q = p
    · rw [if_pos e]
      refine List.nodup_append.2 ⟨h.knd p, by simp, fun a ha b hb e' => ?_⟩
      rw [e', List.mem_singleton.1 hb] at ha
      rcases (h.kmem p id).1 ha with h1 | h1
      · exact hid h1.1
      · exact hnp h1.2
    · rw [if_neg e]
      exact h.knd q
  · unfold addK
    rw [List.take_succ_eq_append_getElem hlt, hpe]
    by_cases e : q = p
    · subst e
      rw [if_pos rfl, List.mem_append, h.kmem q x, List.mem_singleton]
      constructor
      · rintro ((h1 | ⟨h1, h2⟩) | h1)
        · exact .inl h1
        · exact absurd h2 hnp
        · exact .inr ⟨h1, List.mem_append.2 (.inr (List.mem_singleton.2 rfl))⟩
      · rintro (h1 | ⟨h1, _⟩)
        · exact .inl (.inl h1)
        · exact .inr h1
    · rw [if_neg e, h.kmem q x, List.mem_append, List.mem_singleton]
      constructor
      · rintro (h1 | ⟨h1, h2⟩)
        · exact .inl h1
        · exact .inr ⟨h1, .inl h2⟩
      · rintro (h1 | ⟨h1, h2 | h2⟩)
        · exact .inl h1
        · exact .inr ⟨h1, h2⟩
        · exact absurd h2 e

theorem C1.next {G : List Ent} {done ml : List (ByteArray × Value)} {kl kl' : ByteArray → List ByteArray} {rl : List ByteArray} (h : C1 G done ml kl rl) {id : ByteArray} {v : Value} (hid : id ∉ done.map (·.1)) (h2 : C2 G done id (parG G id).length kl') :
    C1 G (done ++ [(id, v)]) (mput ml id (.int .i64 ((parG G id).length : Nat))) kl' (if parG G id = [] then rl ++ [id] else rl) := by
  have hk : (done ++ [(id, v)]).map (·.1) = done.map (·.1) ++ [id] := by simp
  refine ⟨fun x hx => ?_, h2.knd, fun p x => ?_, ?_, fun x => ?_⟩
  · rw [mget_mput]
    rw [hk] at hx
    by_cases e : x = id
    · rw [if_pos e, e]
      rfl
    · rw [if_neg e]
      rcases List.mem_append.1 hx with hx | hx
      · exact h.left x hx
      · exact absurd (List.mem_singleton.1 hx) e
  · rw [h2.kmem p x, hk, List.take_length, List.mem_append, List.mem_singleton]
    constructor
    · rintro (⟨h1, h3⟩ | ⟨rfl, h3⟩)
      · exact ⟨.inl h1, h3⟩
      · exact ⟨.inr rfl, h3⟩
    · rintro ⟨h1 | rfl, h3⟩
      · exact .inl ⟨h1, h3⟩
      · exact .inr ⟨rfl, h3⟩
  · split
    · refine List.nodup_append.2 ⟨h.rnd, by simp, fun a ha b hb e' => ?_⟩
      rw [e', List.mem_singleton.1 hb] at ha
      exact hid ((h.rmem id).1 ha).1
    · exact h.rnd
  · rw [hk, List.mem_append, List.mem_singleton]
    split
    · rename_i hp
      rw [List.mem_append, List.mem_singleton, h.rmem x]
      constructor
      · rintro (⟨h1, h3⟩ | rfl)
        · exact ⟨.inl h1, h3⟩
        · exact ⟨.inr rfl, hp⟩
      · rintro ⟨h1 | rfl, h3⟩
        · exact .inl ⟨h1, h3⟩
        · exact .inr rfl
    · rename_i hp
      rw [h.rmem x]
      constructor
      · rintro ⟨h1, h3⟩
        exact ⟨.inl h1, h3⟩
      · rintro ⟨h1 | rfl, h3⟩
        · exact ⟨h1, h3⟩
        · exact absurd h3 hp

end Go.Proofs.Ytplgelmfhacjkaa

namespace Go.Proofs.Ytplgelmfhacjkaa
open Go.RowKit Go.Proofs.YtplgelmfhacjkaaW.PrintWords

theorem O1.kid_map {w wr : World} {a : Nat} {m left ml mk : List (ByteArray × Value)} {kl : ByteArray → List ByteArray} {v5 : Value} {rl : List ByteArray} (h : O1 w wr a m left ml mk kl v5 rl) {o : Obj} {p : ByteArray} {w2 : World}
    (hg : (wr.alloc o).grownBy w2 (kv mk p).ownBlock) : MapL w2 (w.heap.size + 1) mk := by
  have hlt := h.lt
  exact h.mK.map.move ((hg.block _ (by rw [asz]; omega) (fun e => by have := ((h.mK.own p).lt _ e.symm).1; omega)).trans (Below.heap_alloc _ _ _ (by omega)))

theorem O1.sorted {w wr w2 : World} {a : Nat} {m left ml mk : List (ByteArray × Value)} {kl : ByteArray → List ByteArray} {v5 : Value} {rl r : List ByteArray} (h : O1 w wr a m left ml mk kl v5 rl)
    (hown : w2.ownsRow (w.heap.size + 3) 9 1 v5 r.length (r.map Value.string)) (hg : wr.grownBy w2 v5.ownBlock) : O3 w w2 ml mk kl v5 (.slice none 0 0) r [] := by
  have hlt := h.lt
  have hs := hg.size
  have hkeep : ∀ k, k < wr.heap.size → some k ≠ v5.ownBlock → w2.heap[k]? = wr.heap[k]? := fun k hk hne => hg.block k hk hne
  have hlow : ∀ k, k ≤ w.heap.size + 2 → w2.heap[k]? = wr.heap[k]? := fun k hk => hkeep k (by omega) (fun e => by have := (h.own.lt k e.symm).1; omega)
  refine ⟨h.mL.move (hlow _ (by omega)), h.mK.move (hlow _ (by omega)) (fun p g hg' => ?_), QOwn.of_own hown, own_none _ _ _ _, h.sep, fun p g _ => by simp [Value.ownBlock], fun g _ => by simp [Value.ownBlock], ?_, by omega⟩
  · exact hkeep g ((h.mK.own p).lt g hg').2 (fun e => h.sep p g hg' e.symm)
  · exact h.bel.grown hg (by omega) (fun k e => by have := (h.own.lt k e).1; omega)

theorem DMaps.entry {w : World} {a b : Nat} {G : List Ent} {m k : List (ByteArray × Value)} (h : DMaps w a b G m k) {id : ByteArray} {v : Value} (hm : (id, v) ∈ m) : id ∈ idsG G ∧ w.ownsRow 0 9 1 v (parG G id).length ((parG G id).map Value.string) := by
  have hid : id ∈ idsG G := by
    rw [← h.keys]
    exact List.mem_map.2 ⟨_, hm, rfl⟩
  refine ⟨hid, ?_⟩
  obtain ⟨n, hn⟩ := List.mem_iff_getElem?.1 hm
  have hg := mget_some (m := m) (by rw [h.keys]; exact h.ok.nodup) hn
  have := h.get id
  rw [show mget m id = some v from hg] at this
  exact this

theorem O1.start {w w0 w1 : World} {a : Nat} {m : List (ByteArray × Value)} (hw0 : w0 = (w.alloc (.map #[] 0)).alloc (.map #[] 0)) (hr : RangeL w1 (w.heap.size + 2) a m m) (hf : Fr (fun _ => False) w0 w1) (al : a < w.heap.size) : O1 w w1 a m m [] [] (fun _ => []) (.slice none 0 0) [] := by
  have h1 : MapL w0 w.heap.size [] := by rw [hw0]; exact (MapL.made w).alloc _
  have h2 : MapL w0 (w.heap.size + 1) [] := by
    have := MapL.made (w.alloc (.map #[] 0))
    rw [asz] at this
    rw [hw0]
    exact this
  have hb : Below w.heap.size w w0 := by rw [hw0]; exact ((Below.refl _ w).alloc (Nat.le_refl _) _).alloc (by simp) _
  refine ⟨hr, h1.fr hf (fun h => h), ⟨h2.fr hf (fun h => h), fun p => own_none _ _ _ _, fun p q g _ h => ?_⟩, own_none _ _ _ _, fun p g h => ?_, hb.trans ((hf.to_below (B := w.heap.size) (by rw [hw0]; simp; omega) (fun _ _ h => h))), al⟩
  · simp [kv, mget, Value.ownBlock] at h
  · simp [kv, mget, Value.ownBlock] at h

theorem kl_le {G : List Ent} (hG : GOk G) {done left m : List (ByteArray × Value)} (hk : m.map (·.1) = idsG G) (hp : (done ++ left).Perm m) {l : List ByteArray} (hn : l.Nodup) (hs : ∀ x ∈ l, x ∈ idsG G) : l.length ≤ 300 := by
  have h1 := nodup_sub hn hs
  have h2 := hG.len
  simp [idsG] at h1
  omega

theorem ids_done {G : List Ent} {done left m : List (ByteArray × Value)} (hk : m.map (·.1) = idsG G) (hp : (done ++ left).Perm m) {x : ByteArray} (hx : x ∈ done.map (·.1)) : x ∈ idsG G := by
  rw [← hk]
  refine (hp.map (·.1)).mem_iff.1 ?_
  rw [List.map_append]
  exact List.mem_append.2 (.inl hx)

theorem kid_on {G : List Ent} {x y : ByteArray} {K : List ByteArray} (h : Kids G x K) (hy : y ∈ idsG G) : onB (parG G y) x = onB K y := by
  unfold onB
  have : inB (parG G y) x = inB K y := by
    rw [Bool.eq_iff_iff, inB_iff, inB_iff, h.mem y]
    exact ⟨fun h => ⟨hy, h⟩, fun h => h.2⟩
  rw [this]

theorem onB_drop {K : List ByteArray} (hn : K.Nodup) {j : Nat} {y : ByteArray} (hj : K[j]? = some y) (z : ByteArray) : onB (K.drop j) z = (if z = y then 1 else 0) + onB (K.drop (j + 1)) z ∧ onB (K.drop (j + 1)) y = 0 := by
  have hlt := (List.getElem?_eq_some_iff.1 hj).1
  have hy : y ∉ K.drop (j + 1) := by
    intro hm
    obtain ⟨i, hi⟩ := List.mem_iff_getElem?.1 hm
    rw [List.getElem?_drop] at hi
    have := nodup_idx hn hi hj
    omega
  have h0 : onB (K.drop (j + 1)) y = 0 := by
    unfold onB
    rw [if_neg fun h => hy (inB_iff.1 h)]
  refine ⟨?_, h0⟩
  rw [List.drop_eq_getElem_cons hlt]
  rw [List.getElem?_eq_getElem hlt] at hj
  rw [Option.some.inj hj]
  by_cases e : z = y
  · rw [if_pos e, e, h0]
    unfold onB
    rw [if_pos (inB_iff.2 (by simp))]
  · rw [if_neg e, Nat.zero_add]
    unfold onB
    rw [inB_cons, decide_eq_false (fun h : y = z => e h.symm), Bool.false_or]

set_option maxHeartbeats 8000000 in
set_option maxRecDepth 100000 in
theorem orderD_any {w : World} {p a b : Nat} {G : List Ent} (h : DagRep w p a b G) : Calls Try.prog 14 #[.pointer (some ⟨p, 0, none⟩)] w fun e w' => ∃ (v : Value) (l : List ByteArray), e = .returned v ∧ IsOrd G l ∧ w'.ownsRow w.heap.size 9 1 v l.length (l.map Value.string) ∧ Below w.heap.size w w' := by
  obtain ⟨hp, m, k, hm⟩ := h
  obtain ⟨c0, c1, cf⟩ := box2 hp
  have hpl : p < w.heap.size := (Array.getElem?_eq_some_iff.1 hp).1
  have hGl := hm.ok.len
  have hal := hm.ma.lt
  have HM := Lib.hid hm
  have HG := Lib.hid hm.ok
  clear hp hm
  obtain ⟨i0, hi0, hz0, hz1, hz2⟩ := info_parts info_strs
  have hmm := @run_makeMap Try.prog
  obtain ⟨w0, hw0⟩ : ∃ w0, w0 = (w.alloc (.map #[] 0)).alloc (.map #[] 0) := ⟨_, rfl⟩
  have hs0 : w0.heap.size = w.heap.size + 2 := by rw [hw0]; simp
  have hb0 : Below w.heap.size w w0 := by rw [hw0]; exact ((Below.refl _ w).alloc (Nat.le_refl _) _).alloc (by simp) _
  have d0 := (hb0.cell (p := ⟨p, 0, none⟩) hpl).trans c0
  have HMA := Lib.hid (HM.out.ma.move (hb0.block a hal))
  have HW0 := Lib.hid hw0
  have HS0 := Lib.hid hs0
  clear hw0 hs0 hb0 c0 c1
  go_enter Try.func14, Try.ntmps14
  go_upto_region 5 with fail
  rw [← HW0.out]
  go_wp2_with (at_range; refine wpList_range_L _ rfl _ 54 rfl 9 25 Try.underlying54 a m rfl HMA.out ?_; intro w1 hr1 hf1 hs1; rw [HS0.out] at hr1 ⊢; have HO1 := Lib.hid (O1.start HW0.out hr1 hf1 hal); clear hr1 hf1 hs1)
  clear d0
  go_frame
  go_loopw [5] (fun v5 wr => ∃ (left done ml mk : List (ByteArray × Value)) (kl : ByteArray → List ByteArray) (rl : List ByteArray), O1 w wr a m left ml mk kl v5 rl ∧ (done ++ left).Perm m ∧ C1 G done ml kl rl) (fun _ wr => wr.rangeLeft a (w.heap.size + 2))
  case atStart => exact ⟨m, [], [], [], fun _ => [], [], HO1.out, List.Perm.refl _, C1.start _ _⟩
  case round =>
    obtain ⟨left, done, ml, mk, kl, rl, ho, hp, hc⟩ := hrel
    have HO := Lib.hid ho
    have HP := Lib.hid hp
    have HC := Lib.hid hc
    have hrl := ho.lt
    clear ho hp hc
    go_upto_region 7 with (at_next; refine wpList_next_L _ rfl _ rfl (w.heap.size + 2) a m left rfl HO.out.rng (fun hl0 => ?_) (fun i k0 v0 w1 hi0' hr1 hf1 hs1 hen => ?_))
    · subst hl0
      rw [List.append_nil] at HP
      have hrl : rl.length ≤ 300 := kl_le HG.out (done := done) (left := []) HM.out.keys (by rw [List.append_nil]; exact HP.out) HC.out.rnd (fun x hx => ids_done (left := []) HM.out.keys (by rw [List.append_nil]; exact HP.out) ((HC.out.rmem x).1 hx).1)
      refine (sort_own HO.out.own (by omega) (by omega)).mono ?_
      rintro e w2 ⟨rfl, ⟨r, r1, r2, r3, r4⟩, _, hg2⟩
      have HO3 := Lib.hid (HO.out.sorted r4 hg2)
      have hids : ∀ x, x ∈ done.map (·.1) ↔ x ∈ idsG G := fun x => by rw [← HM.out.keys]; exact (HP.out.map (·.1)).mem_iff
      have HI := Lib.hid (OrdI.start HG.out (R := r) (r2.strict (r1.nodup_iff.2 HC.out.rnd)) (fun y => by rw [r1.mem_iff, HC.out.rmem y, hids y]))
      have HKD := Lib.hid (fun q => (⟨HC.out.knd q, fun y => by rw [HC.out.kmem q y, hids y]⟩ : Kids G q (kl q)))
      have HLF := Lib.hid (fun x (hx : x ∈ idsG G) => (HC.out.left x ((hids x).2 hx)).trans (congrArg (fun n : Nat => Value.int .i64 n) (leftN_nil G x).symm))
      clear r1 r2 r3 r4 hg2 hids HC HP HO
      go_wp2_with fail
      go_loopw [5, 6] (fun v5 v6 wr => ∃ (ml : List (ByteArray × Value)) (R O : List ByteArray), O3 w wr ml mk kl v5 v6 R O ∧ OrdI G O R ∧ ∀ x ∈ idsG G, (mget ml x).getD (.int .i64 0) = .int .i64 (leftN G O x : Nat)) (fun _ v6 _ => G.length + 1 - lenOf v6)
      case atStart => exact ⟨ml, r, [], HO3.out, HI.out, HLF.out⟩
      case round =>
        obtain ⟨ml, R, O, ho, hi, hlf⟩ := hrel
        have hol := hi.len
        cases R with
        | nil =>
          obtain ⟨A5, c5, rfl, _⟩ := ho.rdy.slice
          obtain ⟨A6, c6, rfl, _⟩ := own_slice ho.out
          simp only [List.length_nil]
          have HOO := Lib.hid ho.out
          have HOB := Lib.hid ho.bel
          have HOI := Lib.hid (hi.all HG.out)
          clear ho hi hlf
          go_wp2_with fail
          go_ret
          exact ⟨_, O, rfl, HOI.out, ownsRow_weaken HOO.out (by omega), HOB.out⟩
        | cons x R =>
          have hRl : R.length + 1 ≤ 300 := by
            have := nodup_sub (srising_nodup hi.rise) (m := idsG G) (fun y hy => ((ready_iff HG.out).1 ((hi.ready y).1 hy)).1)
            simp [idsG] at this
            omega
          rcases id ho.rdy with ⟨_, h0⟩ | ⟨g5, off5, c5, cur5, rfl, hb5, hg5, hc5, hm5, hs5, hr5⟩
          · cases h0
          have hcell0 : wr.cell? ⟨g5, off5, none⟩ = some (.string x) := by
            have := hr5 0 x rfl
            rw [Nat.add_zero] at this
            simp only [World.cell?, hg5]
            exact this
          have hlc : (x :: R).length = R.length + 1 := rfl
          rw [hlc] at hc5 ⊢
          obtain ⟨N5, hN5⟩ : ∃ N5, N5 = R.length := ⟨_, rfl⟩
          rw [hlc, ← hN5] at ho
          rw [← hN5] at hc5 hRl ⊢
          obtain ⟨A5, hA5⟩ : ∃ A5, A5 = (if c5 = 1 then some (⟨g5, off5, none⟩ : Addr) else some ⟨g5, off5 + 1, none⟩) := ⟨_, rfl⟩
          have hsl : sliced (some ⟨g5, off5, none⟩) 1 (N5 + 1) c5 1 = .slice A5 N5 (c5 - 1) := by
            rw [hA5]
            unfold sliced
            simp [addk']
          have hpop := ho.pop
          rw [hsl] at hpop
          have HP5 := Lib.hid hpop
          have HN5 := Lib.hid hN5
          have HA5 := Lib.hid hA5
          have HOI := Lib.hid hi
          have HLF := Lib.hid hlf
          have hwlt := ho.lt
          clear ho hi hlf hr5 hg5 hs5 hm5 hb5 hN5 hlc hpop hsl hA5
          go_upto_region 20 with fail
          rw [← HA5.out]
          clear HA5 hcell0
          have hkd := HKD.out x
          have hkl : (kl x).length ≤ 300 := kl_le HG.out (done := m) (left := []) HM.out.keys (by rw [List.append_nil]) hkd.nodup (fun y hy => ((hkd.mem y).1 hy).1)
          have HK := Lib.hid hkd
          clear hkd
          go_wp2_with (first
            | (at_builtin; refine wpList_append_strs _ rfl (.tmp 66) (.tmp 68) 25 rfl (w.heap.size + 3) 9 i0 Try.underlying25 hi0 hz0 hz1 hz2 u6 O [x] rfl (HP5.out.out.alloc _) (some ⟨wr.heap.size, 0, none⟩) 1 rfl (one_str _ _ _) (by simp only [List.length_cons, List.length_nil]; omega) (by rw [asz]; omega) ?_; intro v' w3 hown3 hg3 hat3; have HO4 := Lib.hid (HP5.out.tell hown3 hg3 hat3); clear hown3 hg3 hat3)
            | (at_lookup; refine wpList_lookup_L _ rfl _ _ 54 false rfl 9 25 Try.underlying54 Try.underlying9 _ (zero_strs _) (w.heap.size + 1) _ rfl HO4.out.mK.map x rfl ?_; simp only [Bool.false_eq_true, if_false]; obtain ⟨Ak, ck, hvk, hck, _, _⟩ := own_read (HO4.out.mK.own x) (by omega); rw [show (mget mk x).getD (.slice none 0 0) = kv mk x from rfl, hvk]; have HVK := Lib.hid hvk; clear hvk))
          obtain ⟨NK, hNK⟩ : ∃ NK, NK = (kl x).length := ⟨_, rfl⟩
          rw [← hNK] at hck hkl ⊢
          have HNK := Lib.hid hNK
          clear hNK
          go_loopw [5, 74] (fun v5 iv wq => ∃ (j : Nat) (ml' : List (ByteArray × Value)) (Rj : List ByteArray), iv = .int .i64 j ∧ j ≤ NK ∧ O3 w wq ml' mk kl v5 v' Rj (O ++ [x]) ∧ InI G O x R (kl x) j Rj ∧ ∀ y ∈ idsG G, (mget ml' y).getD (.int .i64 0) = .int .i64 ((leftN G (O ++ [x]) y + onB ((kl x).drop j) y : Nat))) (fun _ iv _ => NK - (intOf iv).toNat)
          case atStart =>
            refine ⟨0, ml, R, rfl, Nat.zero_le _, HO4.out, InI.start HOI.out, fun y hy => ?_⟩
            rw [HLF.out y hy, leftN_snoc HG.out ((ready_iff HG.out).1 ((HOI.out.ready x).1 (by simp))).2.1, List.drop_zero, kid_on HK.out hy]
          case round =>
            obtain ⟨j, ml', Rj, rfl, hj, ho, hin, hlf⟩ := hrel
            have HQ := Lib.hid ho
            have HIN := Lib.hid hin
            have HLJ := Lib.hid hlf
            have hwq := ho.lt
            clear ho hin hlf
            obtain ⟨Ak', ck', hvk', _, hrk, _⟩ := own_read (HQ.out.mK.own x) (by rw [← HNK.out]; omega)
            rw [HVK.out, ← HNK.out] at hvk'
            cases hvk'
            by_cases hlt : j < NK
            · have hlt' : j < (kl x).length := by rw [← HNK.out]; exact hlt
              have hKj : (kl x)[j]? = some (kl x)[j] := List.getElem?_eq_getElem hlt'
              obtain ⟨ad, rfl, hcell⟩ := at_str hrk hlt'
              have hwj := wrapN (i := j) (by omega)
              have hin := HIN.out
              have hids := ((HK.out.mem _).1 (List.getElem_mem hlt')).1
              have hpar := par_le HG.out (kl x)[j]
              obtain ⟨y, hy⟩ : ∃ y, y = (kl x)[j] := ⟨_, rfl⟩
              rw [← hy] at hKj hcell hids hpar
              have hdr := fun z => onB_drop HK.out.nodup hKj z
              have hL0 := HLJ.out y hids
              rw [(hdr y).1, if_pos rfl, (hdr y).2, Nat.add_zero] at hL0
              have hLle : leftN G (O ++ [x]) y ≤ 300 := Nat.le_trans (List.length_filter_le _ _) hpar
              have hLz := leftN_zero (G := G) (O := O ++ [x]) (x := y)
              have hnew := InI.new HG.out (ho := HOI.out) HK.out hin hKj
              obtain ⟨LN, hLN⟩ : ∃ LN, LN = leftN G (O ++ [x]) y := ⟨_, rfl⟩
              rw [← hLN] at hL0 hLle hLz
              have hwl : IntKind.i64.wrap (((LN + 1 : Nat) : Int) - 1) = (LN : Int) := (IntWalk.i64_in _ (by omega)).trans (by omega)
              have hLJ : ∀ z ∈ idsG G, (mget (mput ml' y (.int .i64 (LN : Nat))) z).getD (.int .i64 0) = .int .i64 ((leftN G (O ++ [x]) z + onB ((kl x).drop (j + 1)) z : Nat)) := by
                intro z hz
                rw [mget_mput]
                by_cases e : z = y
                · rw [if_pos e, e, (hdr y).2, Nat.add_zero, Option.getD_some, hLN]
                · rw [if_neg e, HLJ.out z hz, (hdr z).1, if_neg e, Nat.zero_add]
              have HLN := Lib.hid hLJ
              have HL0 := Lib.hid hL0
              have HLZ := Lib.hid hLz
              have HNW := Lib.hid hnew
              have HKJ := Lib.hid hKj
              clear hy hdr hL0 hLz hnew hLN hLJ hin hKj hrk hids hlt'
              by_cases hz : LN = 0
              · have HPA := Lib.hid (HLZ.out.1 hz)
                have hrj : SRising Rj := HIN.out.rise
                have hrjl : Rj.length ≤ 300 := kl_le HG.out (done := m) (left := []) HM.out.keys (by rw [List.append_nil]) (srising_nodup hrj) (fun z hz' => by
                  rcases (HIN.out.mem z).1 hz' with h1 | h1
                  · exact ((ready_iff HG.out).1 ((HOI.out.ready z).1 (by simp [h1]))).1
                  · exact ((HK.out.mem z).1 (List.mem_of_mem_take h1.1)).1)
                have HRJ := Lib.hid hrj
                clear hrj
                subst hz
                go_upto_region 26 with (first
                  | (at_lookup; refine wpList_lookup_L _ rfl _ _ 55 false rfl 9 3 Try.underlying55 Try.underlying9 _ (Try.zeroValue3 _) w.heap.size _ rfl HQ.out.mL y rfl ?_; simp only [Bool.false_eq_true, if_false]; rw [HL0.out]; clear HL0)
                  | (at_mapUpdate; refine wpList_mapUpdate_L _ rfl _ _ _ 55 rfl 9 3 Try.underlying55 Try.underlying9 w.heap.size _ rfl HQ.out.mL y (.int .i64 ((0 : Nat) : Int)) rfl rfl ?_; intro w4 hm4 hg4 hs4; have HQ4 := Lib.hid (HQ.out.setL hm4 hg4); clear hm4 hg4 hs4)
                  | (at_lookup; refine wpList_lookup_L _ rfl _ _ 55 false rfl 9 3 Try.underlying55 Try.underlying9 _ (Try.zeroValue3 _) w.heap.size _ rfl HQ4.out.mL y rfl ?_; simp only [Bool.false_eq_true, if_false]; rw [mget_mput, if_pos rfl, Option.getD_some]))
                have hlb := (low_split (x := y) HRJ.out).1
                have hwlt4 := HQ4.out.lt
                go_wp2_with (first
                  | (go_at_call 35; refine (search_q HQ4.out.rdy HRJ.out (by omega) y).mono ?_; rintro e w5 ⟨bb, rfl, qq, hw5⟩; have HQ5 := Lib.hid (show O3 w w5 _ _ _ _ _ _ _ by rw [hw5]; exact HQ4.out.drewN qq); clear hw5)
                  | (go_at_call 36; refine (insert_q HQ5.out.rdy (by have := HQ5.out.lt; omega) y (lowB Rj y) hlb (by omega)).mono ?_; rintro e w6 ⟨v6, rfl, hins⟩; have HQ6 := Lib.hid (HQ5.out.ins hins); clear hins))
                exact ⟨⟨j + 1, _, _, rfl, by omega, HQ6.out, HIN.out.put HKJ.out HPA.out (ins_rises HRJ.out HNW.out) (fun z => ins_mem), HLN.out⟩, by simp [intOf]; omega⟩
              · have hz' : ¬ ((LN : Nat) : Int) = 0 := by omega
                have HPA := Lib.hid (fun h => hz (HLZ.out.2 h))
                go_wp2_with (first
                  | (at_lookup; refine wpList_lookup_L _ rfl _ _ 55 false rfl 9 3 Try.underlying55 Try.underlying9 _ (Try.zeroValue3 _) w.heap.size _ rfl HQ.out.mL y rfl ?_; simp only [Bool.false_eq_true, if_false]; rw [HL0.out]; clear HL0)
                  | (at_mapUpdate; refine wpList_mapUpdate_L _ rfl _ _ _ 55 rfl 9 3 Try.underlying55 Try.underlying9 w.heap.size _ rfl HQ.out.mL y (.int .i64 (LN : Nat)) rfl rfl ?_; intro w4 hm4 hg4 hs4; have HQ4 := Lib.hid (HQ.out.setL hm4 hg4); clear hm4 hg4 hs4)
                  | (at_lookup; refine wpList_lookup_L _ rfl _ _ 55 false rfl 9 3 Try.underlying55 Try.underlying9 _ (Try.zeroValue3 _) w.heap.size _ rfl HQ4.out.mL y rfl ?_; simp only [Bool.false_eq_true, if_false]; rw [mget_mput, if_pos rfl, Option.getD_some]))
                exact ⟨⟨j + 1, _, Rj, rfl, by omega, HQ4.out, HIN.out.skip HKJ.out HPA.out, HLN.out⟩, by simp [intOf]; omega⟩
            · obtain rfl : j = NK := by omega
              have hin := HIN.out
              rw [HNK.out] at hin
              have HD := Lib.hid (InI.done HG.out HOI.out HK.out hin)
              have HLL := Lib.hid (fun z (hz : z ∈ idsG G) => (HLJ.out z hz))
              clear hin
              go_wp2_with fail
              refine ⟨⟨ml', Rj, O ++ [x], HQ.out, HD.out, fun z hz => ?_⟩, ?_⟩
              · rw [HLL.out z hz, HNK.out, List.drop_length]
                rfl
              · rw [own_len HQ.out.out, own_len HP5.out.out, List.length_append, List.length_singleton]
                omega
    · have hme : (k0, v0) ∈ m := HP.out.mem_iff.1 (List.mem_append.2 (.inr (List.mem_of_getElem? hi0')))
      obtain ⟨hid, hro⟩ := HM.out.entry hme
      have hps := par_le HG.out k0
      have hpm := (List.getElem?_eq_some_iff.1 hi0').1
      have hnew : (done ++ [(k0, v0)] ++ left.eraseIdx i).Perm m := by
        rw [List.append_assoc]
        exact ((eraseIdx_perm hi0').append_left done).trans HP.out
      have hnd : k0 ∉ done.map (·.1) := by
        have h1 := (hnew.map (·.1)).nodup_iff.2 (by rw [HM.out.keys]; exact HG.out.nodup)
        rw [List.map_append, List.map_append] at h1
        have h2 := (List.nodup_append.1 (List.nodup_append.1 h1).1).2.2
        exact fun hm => h2 k0 hm k0 (by simp) rfl
      have HND := Lib.hid hnd
      have HNEW := Lib.hid hnew
      have HO1' := Lib.hid (HO.out.next hr1 hf1)
      obtain ⟨A8, c8, rfl, hc8, hr8, _⟩ := own_read hro (by omega)
      have HR8 := Lib.hid hr8
      clear hme hro hi0' hnew hnd hr1 hf1 hr8 hid
      obtain ⟨N8, hN8⟩ : ∃ N8, N8 = (parG G k0).length := ⟨_, rfl⟩
      rw [← hN8] at hc8 hps hen
      have HN8 := Lib.hid hN8
      clear hN8
      go_wp2_with (at_mapUpdate; refine wpList_mapUpdate_L _ rfl _ _ _ 55 rfl 9 3 Try.underlying55 Try.underlying9 w.heap.size _ rfl HO1'.out.mL k0 (.int .i64 (N8 : Nat)) rfl rfl ?_; intro w2 hm2 hg2 hs2; have HO2 := Lib.hid (HO1'.out.setL hm2 hg2); clear hm2 hg2 hs2)
      clear hen
      go_loopw [10, 36] (fun _ iv wq => ∃ (j : Nat) (mk' : List (ByteArray × Value)) (kl' : ByteArray → List ByteArray), iv = .int .i64 j ∧ j ≤ N8 ∧ O1 w wq a m (left.eraseIdx i) (mput ml k0 (.int .i64 (N8 : Nat))) mk' kl' u5 rl ∧ C2 G done k0 j kl') (fun _ iv _ => N8 - (intOf iv).toNat)
      case atStart => exact ⟨0, mk, kl, rfl, Nat.zero_le _, HO2.out, HC.out.start2 k0⟩
      case round =>
        obtain ⟨j, mk', kl', rfl, hj, ho, hc2⟩ := hrel
        have HOJ := Lib.hid ho
        have HCJ := Lib.hid hc2
        have hwq := ho.lt
        clear ho hc2
        by_cases hlt : j < N8
        · have hlt' : j < (parG G k0).length := by rw [← HN8.out]; exact hlt
          obtain ⟨ad, rfl, hcell⟩ := at_str HR8.out hlt'
          have hcq := (HOJ.out.bel.cell (p := ad.add j) (World.block_lt_of_cell? _ _ hcell)).trans hcell
          have HST := Lib.hid (HCJ.out.step HG.out HND.out (List.getElem?_eq_getElem hlt'))
          obtain ⟨q, hq⟩ : ∃ q, q = (parG G k0)[j] := ⟨_, rfl⟩
          rw [← hq] at hcq HST
          have hwj := wrapN (i := j) (by omega)
          have hkl : (kl' q).length ≤ 300 := kl_le HG.out HM.out.keys HNEW.out (HCJ.out.knd q) (fun x hx => by
            rcases (HCJ.out.kmem q x).1 hx with h1 | h1
            · exact ids_done HM.out.keys HNEW.out (by rw [List.map_append]; exact List.mem_append.2 (.inl h1.1))
            · exact ids_done HM.out.keys HNEW.out (by rw [List.map_append, h1.1]; exact List.mem_append.2 (.inr (List.mem_singleton.2 rfl))))
          clear hcell hq
          go_wp2_with (first
            | (at_lookup; refine wpList_lookup_L _ rfl _ _ 54 false rfl 9 25 Try.underlying54 Try.underlying9 _ (zero_strs _) (w.heap.size + 1) _ rfl HOJ.out.mK.map q rfl ?_; simp only [Bool.false_eq_true, if_false])
            | (at_builtin; refine wpList_append_strs _ rfl (.tmp 44) (.tmp 46) 25 rfl (w.heap.size + 3) 9 i0 Try.underlying25 hi0 hz0 hz1 hz2 (kv mk' q) (kl' q) [k0] rfl ((HOJ.out.mK.own q).alloc _) (some ⟨wr.heap.size, 0, none⟩) 1 rfl (one_str _ _ _) (by simp only [List.length_cons, List.length_nil]; omega) (by rw [asz]; omega) ?_; intro v' w3 hown3 hg3 hat3; have HOWN3 := Lib.hid hown3; have HG3 := Lib.hid hg3; have HAT3 := Lib.hid hat3; have HKM := Lib.hid (HOJ.out.kid_map hg3); clear hown3 hg3 hat3)
            | (at_mapUpdate; refine wpList_mapUpdate_L _ rfl _ _ _ 54 rfl 9 25 Try.underlying54 Try.underlying9 (w.heap.size + 1) _ rfl HKM.out q v' rfl rfl ?_; intro w4 hm4 hg4 hs4; have HO4 := Lib.hid (HOJ.out.kid HOWN3.out HG3.out HAT3.out hm4 hg4); clear hm4 hg4 hs4))
          exact ⟨⟨j + 1, _, _, rfl, by omega, HO4.out, HST.out⟩, by simp [intOf]; omega⟩
        · obtain rfl : j = N8 := by omega
          have hcn := HCJ.out
          rw [HN8.out] at hcn
          have HNX := Lib.hid (HC.out.next (v := .slice A8 j c8) HND.out hcn)
          rw [← HN8.out] at HNX HNEW
          clear hcn
          by_cases hz : j = 0
          · have hpe : parG G k0 = [] := List.eq_nil_of_length_eq_zero (by rw [← HN8.out]; exact hz)
            rw [if_pos hpe] at HNX
            have hrl : rl.length ≤ 300 := kl_le HG.out HM.out.keys HP.out HC.out.rnd (fun x hx => ids_done HM.out.keys HP.out ((HC.out.rmem x).1 hx).1)
            clear hpe
            go_wp2_with (at_builtin; refine wpList_append_strs _ rfl (.tmp 52) (.tmp 54) 25 rfl (w.heap.size + 3) 9 i0 Try.underlying25 hi0 hz0 hz1 hz2 u5 rl [k0] rfl (HOJ.out.own.alloc _) (some ⟨wr.heap.size, 0, none⟩) 1 rfl (one_str _ _ _) (by simp only [List.length_cons, List.length_nil]; omega) (by rw [asz]; omega) ?_; intro v' w3 hown3 hg3 hat3; have HO3 := Lib.hid (HOJ.out.rdy hown3 hg3 hat3); clear hown3 hg3 hat3)
            refine ⟨⟨left.eraseIdx i, _, _, mk', kl', rl ++ [k0], HO3.out, HNEW.out, HNX.out⟩, ?_⟩
            rw [HO3.out.rng.left_eq, HO.out.rng.left_eq, List.length_eraseIdx, if_pos hpm]
            omega
          · have hpe : ¬ parG G k0 = [] := fun e => hz (by rw [HN8.out, e]; rfl)
            rw [if_neg hpe] at HNX
            have hz' : ¬ ((j : Nat) : Int) = 0 := by omega
            clear hpe
            go_wp2_with fail
            refine ⟨⟨left.eraseIdx i, _, _, mk', kl', rl, HOJ.out, HNEW.out, HNX.out⟩, ?_⟩
            rw [HOJ.out.rng.left_eq, HO.out.rng.left_eq, List.length_eraseIdx, if_pos hpm]
            omega

theorem order_none (w : World) : Calls Try.prog 14 #[.pointer none] w fun e w' => e = .returned (.slice none 0 0) ∧ w' = w := by
  go_enter Try.func14, Try.ntmps14
  go_wp2_with fail
  go_ret
  exact ⟨rfl, rfl⟩

theorem copy_none (w : World) : Calls Try.prog 30 #[.pointer none] w fun e w' => e = .returned (.pointer none) ∧ w' = w := by
  go_enter Try.func30, Try.ntmps30
  go_wp2_with fail
  go_ret
  exact ⟨rfl, rfl⟩

end Go.Proofs.Ytplgelmfhacjkaa

namespace Go.Proofs.Ytplgelmfhacjkaa
open Go.RowKit Go.Proofs.YtplgelmfhacjkaaW.PrintWords

instance (x : ByteArray) (l : List ByteArray) : Decidable (x ∈ l) := decidable_of_iff (inB l x = true) inB_iff
instance (l : List ByteArray) : Decidable (SRising l) := inferInstanceAs (Decidable (l.Pairwise ltS))

def sA : ByteArray := ⟨#[97]⟩
def sB : ByteArray := ⟨#[98]⟩
def sC : ByteArray := ⟨#[99]⟩
def sD : ByteArray := ⟨#[100]⟩
def G1 : List Ent := [(sA, [])]
def G2 : List Ent := [(sA, []), (sB, [sA])]
def G3 : List Ent := [(sA, []), (sB, [sA]), (sC, [sA])]
def G4 : List Ent := [(sA, []), (sB, [sA]), (sC, [sA]), (sD, [sB, sC])]

theorem g1w : whyG [] sA [] = 0 := by decide +kernel
theorem g2w : whyG G1 sB [sA] = 0 := by decide +kernel
theorem g3w : whyG G2 sC [sA] = 0 := by decide +kernel
theorem g4w : whyG G3 sD [sB, sC] = 0 := by decide +kernel
theorem g1a : addG [] sA [] = G1 := by decide +kernel
theorem g2a : addG G1 sB [sA] = G2 := by decide +kernel
theorem g3a : addG G2 sC [sA] = G3 := by decide +kernel
theorem g4a : addG G3 sD [sB, sC] = G4 := by decide +kernel

theorem heads4 : IsHeads G4 [sD] := by
  refine ⟨List.pairwise_singleton _ _, fun x => ?_⟩
  constructor
  · intro h
    rw [List.mem_singleton.1 h]
    exact ⟨by decide +kernel, by decide +kernel⟩
  · rintro ⟨h1, h2⟩
    have h1' : x = sA ∨ x = sB ∨ x = sC ∨ x = sD := by simpa [idsG, G4] using h1
    rcases h1' with rfl | rfl | rfl | rfl
    · exact absurd (by decide +kernel) (h2 (sB, [sA]) (by simp [G4]))
    · exact absurd (by decide +kernel) (h2 (sD, [sB, sC]) (by simp [G4]))
    · exact absurd (by decide +kernel) (h2 (sD, [sB, sC]) (by simp [G4]))
    · simp

theorem ready4 {O : List ByteArray} {y : ByteArray} (h : Ready G4 O y) : (y = sA ∧ sA ∉ O) ∨ (y = sB ∧ sB ∉ O ∧ sA ∈ O) ∨ (y = sC ∧ sC ∉ O ∧ sA ∈ O) ∨ (y = sD ∧ sD ∉ O ∧ sB ∈ O ∧ sC ∈ O) := by
  obtain ⟨e, he, rfl, h1, h2⟩ := h
  simp only [G4, List.mem_cons, List.not_mem_nil, or_false] at he
  rcases he with rfl | rfl | rfl | rfl
  · exact .inl ⟨rfl, h1⟩
  · exact .inr (.inl ⟨rfl, h1, h2 _ (by simp)⟩)
  · exact .inr (.inr (.inl ⟨rfl, h1, h2 _ (by simp)⟩))
  · exact .inr (.inr (.inr ⟨rfl, h1, h2 _ (by simp), h2 _ (by simp)⟩))

theorem order4 : IsOrd G4 [sA, sB, sC, sD] := by
  refine ⟨rfl, fun i x hi => ?_⟩
  have hl := (List.getElem?_eq_some_iff.1 hi).1
  simp at hl
  have hi4 : i = 0 ∨ i = 1 ∨ i = 2 ∨ i = 3 := by omega
  rcases hi4 with rfl | rfl | rfl | rfl
  · obtain rfl : sA = x := by simpa using hi
    refine ⟨⟨(sA, []), by simp [G4], rfl, by simp, by simp⟩, fun y hy => ?_⟩
    rcases ready4 hy with ⟨rfl, _⟩ | ⟨rfl, _, h⟩ | ⟨rfl, _, h⟩ | ⟨rfl, _, h, _⟩
    · exact .inl rfl
    all_goals simp at h
  · obtain rfl : sB = x := by simpa using hi
    refine ⟨⟨(sB, [sA]), by simp [G4], rfl, by decide +kernel, by decide +kernel⟩, fun y hy => ?_⟩
    rcases ready4 hy with ⟨rfl, h⟩ | ⟨rfl, _, h⟩ | ⟨rfl, _, h⟩ | ⟨rfl, _, h, _⟩
    · exact absurd (by decide +kernel) h
    · exact .inl rfl
    · exact .inr (by decide +kernel)
    · exact .inr (by decide +kernel)
  · obtain rfl : sC = x := by simpa using hi
    refine ⟨⟨(sC, [sA]), by simp [G4], rfl, by decide +kernel, by decide +kernel⟩, fun y hy => ?_⟩
    rcases ready4 hy with ⟨rfl, h⟩ | ⟨rfl, h, _⟩ | ⟨rfl, _, h⟩ | ⟨rfl, _, h, _⟩
    · exact absurd (by decide +kernel) h
    · exact absurd (by decide +kernel) h
    · exact .inl rfl
    · exact .inr (by decide +kernel)
  · obtain rfl : sD = x := by simpa using hi
    refine ⟨⟨(sD, [sB, sC]), by simp [G4], rfl, by decide +kernel, by decide +kernel⟩, fun y hy => ?_⟩
    rcases ready4 hy with ⟨rfl, h⟩ | ⟨rfl, h, _⟩ | ⟨rfl, h, _⟩ | ⟨rfl, _, h, _⟩
    · exact absurd (by decide +kernel) h
    · exact absurd (by decide +kernel) h
    · exact absurd (by decide +kernel) h
    · exact .inl rfl

theorem par4D : parG G4 sD = [sB, sC] := by decide +kernel
theorem par4B : parG G4 sB = [sA] := by decide +kernel
theorem par4C : parG G4 sC = [sA] := by decide +kernel
theorem par4A : parG G4 sA = [] := by decide +kernel

theorem past4 : IsPast G4 sD [sA, sB, sC] := by
  refine ⟨by decide +kernel, fun x => ⟨fun h => ?_, fun h => ?_⟩⟩
  · simp only [List.mem_cons, List.not_mem_nil, or_false] at h
    have hB : Anc G4 sB sD := .par (by rw [par4D]; simp)
    rcases h with rfl | rfl | rfl
    · exact .step (by rw [par4B]; simp) hB
    · exact hB
    · exact .par (by rw [par4D]; simp)
  · generalize hd : sD = d at h
    induction h with
    | par hp =>
      subst hd
      rw [par4D] at hp
      simp only [List.mem_cons, List.not_mem_nil, or_false] at hp ⊢
      rcases hp with rfl | rfl <;> simp
    | step hp _ ih =>
      have := ih hd
      simp only [List.mem_cons, List.not_mem_nil, or_false] at this
      rcases this with rfl | rfl | rfl
      · rw [par4A] at hp
        cases hp
      · rw [par4B] at hp
        rw [List.mem_singleton.1 hp]
        simp
      · rw [par4C] at hp
        rw [List.mem_singleton.1 hp]
        simp

theorem nil_strs (w : World) : Kd.C Kd.string w none 0 [] := ⟨rfl, by simp, fun h => absurd h (Nat.lt_irrefl _)⟩

theorem row_strs (w : World) (xs : List ByteArray) (hl : xs.length ≤ 1000000) : Kd.C Kd.string (w.alloc (.cells (xs.map Value.string).toArray 9)) (some ⟨w.heap.size, 0, none⟩) xs.length xs :=
  strs_read (heap_alloc_new _ _) rfl hl

theorem heads_row {w : World} {p a b : Nat} {G : List Ent} (h : DagRep w p a b G) {l : List ByteArray} (hl : IsHeads G l) : Calls Try.prog 15 #[.pointer (some ⟨p, 0, none⟩)] w fun e w' => ∃ A c, e = .returned (.slice A l.length c) ∧ l.length ≤ c ∧ Kd.C Kd.string w' A l.length l ∧ Below w.heap.size w w' := by
  have hG := h.ok
  refine (headsD_any h).mono ?_
  rintro e w' ⟨v, k, rfl, hk, ho, hb⟩
  obtain rfl := hl.one hk
  have hle := nodup_sub (srising_nodup hl.1) (m := idsG G) (fun x hx => ((hl.2 x).1 hx).1)
  have := hG.len
  simp [idsG] at hle
  obtain ⟨A, c, rfl, h1, h2, _⟩ := own_read ho (by omega)
  exact ⟨A, c, rfl, h1, h2, hb⟩

theorem order_row {w : World} {p a b : Nat} {G : List Ent} (h : DagRep w p a b G) {l : List ByteArray} (hl : IsOrd G l) : Calls Try.prog 14 #[.pointer (some ⟨p, 0, none⟩)] w fun e w' => ∃ A c, e = .returned (.slice A l.length c) ∧ l.length ≤ c ∧ Kd.C Kd.string w' A l.length l ∧ Below w.heap.size w w' := by
  have hG := h.ok
  refine (orderD_any h).mono ?_
  rintro e w' ⟨v, k, rfl, hk, ho, hb⟩
  obtain rfl := hl.one hk
  have := hG.len
  have := hl.1
  obtain ⟨A, c, rfl, h1, h2, _⟩ := own_read ho (by omega)
  exact ⟨A, c, rfl, h1, h2, hb⟩

theorem past_row {w : World} {p a b : Nat} {G : List Ent} (h : DagRep w p a b G) {id : ByteArray} {l : List ByteArray} (hl : IsPast G id l) : Calls Try.prog 27 #[.pointer (some ⟨p, 0, none⟩), .string id] w fun e w' => ∃ A c, e = .returned (.slice A l.length c) ∧ l.length ≤ c ∧ Kd.C Kd.string w' A l.length l ∧ Below w.heap.size w w' := by
  have hG := h.ok
  refine (pastSD_any h id).mono ?_
  rintro e w' ⟨v, k, rfl, hk, ho, hb⟩
  obtain rfl := hl.one hk
  have := anc_len hG (srising_nodup hl.1) hl.2
  obtain ⟨A, c, rfl, h1, h2, _⟩ := own_read ho (by omega)
  exact ⟨A, c, rfl, h1, h2, hb⟩

/-- Same of a row and the same texts written out. -/
theorem same_lit {w : World} {A : Option Addr} {c : Nat} {l : List ByteArray} (h : Kd.C Kd.string w A l.length l) (hc : l.length ≤ c) (hl : l.length ≤ 1000000 := by simp) :
    Calls Try.prog 24 #[.slice A l.length c, .slice (some ⟨w.heap.size, 0, none⟩) l.length l.length] (w.alloc (.cells (l.map Value.string).toArray 9)) fun e w' => e = .returned (.bool true) ∧ Below w.heap.size w w' := by
  have hb : Below w.heap.size w (w.alloc (.cells (l.map Value.string).toArray 9)) := (Below.refl _ w).alloc (Nat.le_refl _) _
  refine (same_calls (Kd.C_below h hb) hc (row_strs w l hl) (Nat.le_refl _) hl).mono ?_
  rintro e w' ⟨rfl, hd⟩
  exact ⟨by simp, hb.trans (hd.below.mono (by simp))⟩

set_option maxHeartbeats 8000000 in
set_option maxRecDepth 100000 in
theorem awake12 (w : World) : Calls Try.prog 16 #[] w fun e w' => e = .returned (.bool true) ∧ Below w.heap.size w w' := by
  go_enter Try.func16, Try.ntmps16
  go_upto_region 2 with (go_at_call 10; refine (new_any _).mono ?_; rintro e w1 ⟨p, a, b, rfl, hp, ha, hb, hd, hbl⟩; have HD := Lib.hid hd; have HB := Lib.hid hbl; clear hd hbl)
  have K1 := Lib.hid (fun (W : World) (h : DagRep W p a b []) => addD_any h sA (nil_strs W) (Nat.le_refl 0) (by simp))
  have K2 := Lib.hid (fun (W : World) (h : DagRep W p a b G1) => addD_any (h.below ((Below.refl _ W).alloc (Nat.le_refl _) (.cells #[.string sA] 9))) sB (row_strs W [sA] (by simp)) (Nat.le_refl 1) (by simp))
  have K3 := Lib.hid (fun (W : World) (h : DagRep W p a b G2) => addD_any (h.below ((Below.refl _ W).alloc (Nat.le_refl _) (.cells #[.string sA] 9))) sC (row_strs W [sA] (by simp)) (Nat.le_refl 1) (by simp))
  have K4 := Lib.hid (fun (W : World) (h : DagRep W p a b G3) => addD_any (h.below ((Below.refl _ W).alloc (Nat.le_refl _) (.cells #[.string sB, .string sC] 9))) sD (row_strs W [sB, sC] (by simp)) (Nat.le_refl 2) (by simp))
  rw [g1w, g1a] at K1
  rw [g2w, g2a] at K2
  rw [g3w, g3a] at K3
  rw [g4w, g4a] at K4
  have N1 := Lib.hid (fun (P : Prop) (h : P) => h)
  go_upto_region 3 with (first
    | (go_at_call 12; refine (K1.out _ HD.out).mono ?_; rintro e w2 ⟨rfl, hd2, hf2⟩; have HD2 := Lib.hid hd2; have HF2 := Lib.hid (HB.out.trans (hf2.to_below (B := w.heap.size) HB.out.size (fun k hk h => h.elim (fun e => by omega) (fun e => by omega)))); clear hd2 hf2 K1)
    | (go_at_call 12; refine (K2.out _ HD2.out).mono ?_; rintro e w3 ⟨rfl, hd3, hf3⟩; have HD3 := Lib.hid hd3; have HF3 := Lib.hid ((HF2.out.alloc HF2.out.size _).trans (hf3.to_below (B := w.heap.size) (by rw [asz]; have := HF2.out.size; omega) (fun k hk h => h.elim (fun e => by omega) (fun e => by omega)))); clear hd3 hf3 K2)
    | (go_at_call 12; refine (K3.out _ HD3.out).mono ?_; rintro e w4 ⟨rfl, hd4, hf4⟩; have HD4 := Lib.hid hd4; have HF4 := Lib.hid ((HF3.out.alloc HF3.out.size _).trans (hf4.to_below (B := w.heap.size) (by rw [asz]; have := HF3.out.size; omega) (fun k hk h => h.elim (fun e => by omega) (fun e => by omega)))); clear hd4 hf4 K3)
    | (go_at_call 12; refine (K4.out _ HD4.out).mono ?_; rintro e w5 ⟨rfl, hd5, hf5⟩; have HD5 := Lib.hid hd5; have HF5 := Lib.hid ((HF4.out.alloc HF4.out.size _).trans (hf5.to_below (B := w.heap.size) (by rw [asz]; have := HF4.out.size; omega) (fun k hk h => h.elim (fun e => by omega) (fun e => by omega)))); clear hd5 hf5 K4))
  have H1 := Lib.hid (heads_row HD5.out heads4)
  have H2 := Lib.hid (fun (W : World) (h : DagRep W p a b G4) => order_row h order4)
  have H3 := Lib.hid (fun (W : World) (h : DagRep W p a b G4) => past_row h past4)
  clear HD HB HD2 HF2 HD3 HF3 HD4 HF4 N1
  go_wp2_with (first
    | (go_at_call 15; refine H1.out.mono ?_; rintro e w6 ⟨A6, c6, rfl, hc6, hr6, hb6⟩; have HR6 := Lib.hid hr6; have HB6 := Lib.hid hb6; have HD6 := Lib.hid (HD5.out.below hb6); clear hr6 hb6 H1)
    | (go_at_call 24; refine (same_lit HR6.out hc6).mono ?_; rintro e w7 ⟨rfl, hb7⟩; have HB7 := Lib.hid hb7; have HD7 := Lib.hid (HD6.out.below hb7); clear hb7 HR6)
    | (go_at_call 14; refine (H2.out _ HD7.out).mono ?_; rintro e w8 ⟨A8, c8, rfl, hc8, hr8, hb8⟩; have HR8 := Lib.hid hr8; have HB8 := Lib.hid hb8; have HD8 := Lib.hid (HD7.out.below hb8); clear hr8 hb8 H2)
    | (go_at_call 24; refine (same_lit HR8.out hc8).mono ?_; rintro e w9 ⟨rfl, hb9⟩; have HB9 := Lib.hid hb9; have HD9 := Lib.hid (HD8.out.below hb9); clear hb9 HR8)
    | (go_at_call 27; refine (H3.out _ HD9.out).mono ?_; rintro e w10 ⟨A10, c10, rfl, hc10, hr10, hb10⟩; have HR10 := Lib.hid hr10; have HB10 := Lib.hid hb10; clear hr10 hb10 H3)
    | (go_at_call 24; refine (same_lit HR10.out hc10).mono ?_; rintro e w11 ⟨rfl, hb11⟩; have HB11 := Lib.hid hb11; clear hb11 HR10))
  go_ret
  have s5 := HF5.out.size
  have s6 := HB6.out.size
  have s7 := HB7.out.size
  have s8 := HB8.out.size
  have s9 := HB9.out.size
  have s10 := HB10.out.size
  exact ⟨rfl, HF5.out.trans ((HB6.out.mono s5).trans ((HB7.out.mono (by omega)).trans ((HB8.out.mono (by omega)).trans ((HB9.out.mono (by omega)).trans ((HB10.out.mono (by omega)).trans (HB11.out.mono (by omega)))))))⟩

end Go.Proofs.Ytplgelmfhacjkaa

namespace Go.Proofs.Ytplgelmfhacjkaa
open Go.ChangeShapes Go.WideShapes Go.ChangeAt Go.RowKit Go.Proofs.YtplgelmfhacjkaaW.PrintWords

theorem own0 : ownKnob Try.prog.godebug = none := by kernel_rfl
theorem laid : laidOutB Try.prog = true := by kernel_rfl

theorem u8_range {n : Int} (h : (Lit.int .u8 n).wf = true) : 0 ≤ n ∧ n ≤ 255 := by
  have e1 : IntKind.u8.min = 0 := by decide
  have e2 : IntKind.u8.max = 255 := by decide
  simp only [Lit.wf, Bool.and_eq_true, decide_eq_true_eq, e1, e2] at h
  exact h

theorem u16_range {n : Int} (h : (Lit.int .u16 n).wf = true) : 0 ≤ n ∧ n ≤ 65535 := by
  have e1 : IntKind.u16.min = 0 := by decide
  have e2 : IntKind.u16.max = 65535 := by decide
  simp only [Lit.wf, Bool.and_eq_true, decide_eq_true_eq, e1, e2] at h
  exact h

theorem i64_range {n : Int} (h : (Lit.int .i64 n).wf = true) : -9223372036854775808 ≤ n ∧ n ≤ 9223372036854775807 := by
  have e1 : IntKind.i64.min = -9223372036854775808 := by decide
  have e2 : IntKind.i64.max = 9223372036854775807 := by decide
  simp only [Lit.wf, Bool.and_eq_true, decide_eq_true_eq, e1, e2] at h
  exact h

end Go.Proofs.Ytplgelmfhacjkaa
