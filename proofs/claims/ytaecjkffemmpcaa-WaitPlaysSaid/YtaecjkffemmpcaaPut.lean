/- Put in one contract: what it answers and who waits behind it. -/
import Derived.Test.YtaecjkffemmpcaaW8
import Derived.Test.YtaecjkffemmpcaaPur2
namespace Go.Proofs.Ytaecjkffemmpcaa
open Go.RowKit Go.Proofs.YtaecjkffemmpcaaW.PrintWords Go.Proofs.Ytaecjkffemmpcaa.PRef

def putP (places : Int) (l : List WItem) (id text : ByteArray) (ms : List ByteArray) : Int × List WItem :=
  if ms.length = 0 then (1, l) else if hasIx l id = true then (11, l) else if places ≤ (l.length : Int) then (8, l) else (0, l ++ [⟨id, text, addAll ms⟩])

theorem putP_length (places : Int) (l : List WItem) (id text : ByteArray) (ms : List ByteArray) : (putP places l id text ms).2.length ≤ l.length + 1 := by
  unfold putP
  (repeat' split) <;> simp

theorem addk_length (l : List ByteArray) (s : ByteArray) : (addk l s).length ≤ l.length + 1 := by
  unfold addk
  split <;> simp

theorem addk_mem (l : List ByteArray) (s x : ByteArray) : x ∈ addk l s ↔ x ∈ l ∨ x = s := by
  unfold addk
  split
  · rename_i h
    have := inB_iff.1 h
    exact ⟨.inl, fun h => h.elim (fun h => h) (fun e => e ▸ this)⟩
  · simp

theorem foldl_addk (ms : List ByteArray) : ∀ l : List ByteArray, (ms.foldl addk l).length ≤ l.length + ms.length ∧ ∀ x, x ∈ ms.foldl addk l ↔ x ∈ l ∨ x ∈ ms := by
  induction ms with
  | nil => intro l; simp
  | cons s ms ih =>
    intro l
    obtain ⟨h1, h2⟩ := ih (addk l s)
    refine ⟨?_, fun x => ?_⟩
    · have := addk_length l s
      simp only [List.foldl_cons, List.length_cons]
      omega
    · rw [List.foldl_cons, h2, addk_mem, List.mem_cons]
      constructor
      · rintro ((h | h) | h)
        · exact .inl h
        · exact .inr (.inl h)
        · exact .inr (.inr h)
      · rintro (h | h | h)
        · exact .inl (.inl h)
        · exact .inl (.inr h)
        · exact .inr h

theorem addAll_mem (ms : List ByteArray) (x : ByteArray) : x ∈ addAll ms ↔ x ∈ ms := by have := (foldl_addk ms []).2 x; simpa [addAll] using this
theorem addAll_length (ms : List ByteArray) : (addAll ms).length ≤ ms.length := by have := (foldl_addk ms []).1; simpa [addAll] using this

theorem put_any {w : World} {F : Nat → Prop} {p : Nat} {places : Int} {l : List WItem} (id text : ByteArray) (A : Option Addr) (c : Nat) (ms : List ByteArray) (h : WRep w F p places l) (hm : l.length ≤ 1000) (hn2 : ms.length ≤ 1000) (hr : Kd.C Kd.string w A ms.length ms) :
    Calls Try.prog 9 #[.pointer (some ⟨p, 0, none⟩), .string id, .string text, .slice A ms.length c] w fun e w' => e = .returned (.int .i64 (putP places l id text ms).1) ∧
      WRep w' (fun b => F b ∨ (w.heap.size ≤ b ∧ b < w'.heap.size)) p places (putP places l id text ms).2 ∧ Fr F w w' := by
  have fin : ∀ {w' : World}, Below w.heap.size w w' → WRep w' (fun b => F b ∨ (w.heap.size ≤ b ∧ b < w'.heap.size)) p places l ∧ Fr F w w' :=
    fun hb => ⟨(h.below hb).move_F fun _ hf => .inl hf, Fr.of_below hb⟩
  by_cases h0 : ms.length = 0
  · rw [show putP places l id text ms = (1, l) by simp [putP, h0], h0]
    exact (put_empty p id text A c w).mono fun e w' ⟨he, hb⟩ => ⟨he, fin hb⟩
  · by_cases h1 : hasIx l id = true
    · rw [show putP places l id text ms = (11, l) by simp only [putP, h0, h1, if_false, if_true]]
      exact (put_twice id text A ms.length c h (by unfold maxLen; omega) (by omega) h1).mono fun e w' ⟨he, hb⟩ => ⟨he, fin hb⟩
    · have h1' : hasIx l id = false := by simpa using h1
      by_cases h2 : places ≤ (l.length : Int)
      · rw [show putP places l id text ms = (8, l) by unfold putP; rw [if_neg h0, if_neg h1, if_pos h2]]
        exact (put_busy id text A ms.length c h (by unfold maxLen; omega) (by omega) h1' h2).mono fun e w' ⟨he, hb⟩ => ⟨he, fin hb⟩
      · rw [show putP places l id text ms = (0, l ++ [⟨id, text, addAll ms⟩]) by unfold putP; rw [if_neg h0, if_neg h1, if_neg h2]]
        exact put_ok id text A c ms h hm (by omega) hn2 hr h1' (by omega)

end Go.Proofs.Ytaecjkffemmpcaa
