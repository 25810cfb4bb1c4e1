/- Texts in Go's order: strictly rising lists; small words on printed functions. No memory, no program. -/
import Derived.Test.YtdogmcpmlglkfaaSrt
import Derived.Test.YtdogmcpmlglkfaaLib4
namespace Go.Proofs.Ytdogmcpmlglkfaa
open Go.RowKit Go.Proofs.YtdogmcpmlglkfaaW.PrintWords

def ltS (a b : ByteArray) : Prop := a.data.toList < b.data.toList
instance (a b : ByteArray) : Decidable (ltS a b) := inferInstanceAs (Decidable (a.data.toList < b.data.toList))
def SRising (l : List ByteArray) : Prop := l.Pairwise ltS

theorem ltS_irrefl (a : ByteArray) : ¬ ltS a a := Std.lt_irrefl
theorem ltS_trans {a b c : ByteArray} (h : ltS a b) (k : ltS b c) : ltS a c := Std.lt_trans h k
theorem ltS_total {a b : ByteArray} (h : ¬ ltS a b) (hne : a ≠ b) : ltS b a := by
  unfold ltS at *
  rw [Std.not_lt] at h
  exact Std.lt_of_le_of_ne h (fun e => hne (WideShapes.bytes_inj e.symm))

theorem less_eq (a b : ByteArray) : Op.bytesLess a.toList b.toList = decide (ltS a b) := by
  rw [Go.Proofs.bytesLess_eq, ByteArray.toList_eq, ByteArray.toList_eq]
  rfl

theorem toList_iff (a b : ByteArray) : a.toList = b.toList ↔ a = b := by
  rw [ByteArray.toList_eq, ByteArray.toList_eq]
  exact ⟨fun h => WideShapes.bytes_inj h, fun h => by rw [h]⟩

theorem Rising.strict {l : List ByteArray} (h : Rising l) (hn : l.Nodup) : SRising l := by
  have : l.Pairwise (fun a b => a.data.toList ≤ b.data.toList ∧ a ≠ b) := List.Pairwise.and h hn
  exact this.imp fun {a b} ⟨h1, h2⟩ => Std.lt_of_le_of_ne h1 (fun e => h2 (WideShapes.bytes_inj e))

/-- Two rising lists of the same texts are one. -/
theorem srising_eq : ∀ {a b : List ByteArray}, SRising a → SRising b → (∀ s, s ∈ a ↔ s ∈ b) → a = b
  | [], [], _, _, _ => rfl
  | [], y :: b, _, _, h => by have := (h y).2 (by simp); simp at this
  | x :: a, [], _, _, h => by have := (h x).1 (by simp); simp at this
  | x :: a, y :: b, ha, hb, h => by
    obtain ⟨ha1, ha2⟩ := List.pairwise_cons.1 ha
    obtain ⟨hb1, hb2⟩ := List.pairwise_cons.1 hb
    have hxy : x = y := by
      have h1 : x ∈ y :: b := (h x).1 (by simp)
      have h2 : y ∈ x :: a := (h y).2 (by simp)
      rcases List.mem_cons.1 h1 with e | h1
      · exact e
      · rcases List.mem_cons.1 h2 with e | h2
        · exact e.symm
        · exact absurd (ltS_trans (ha1 y h2) (hb1 x h1)) (ltS_irrefl x)
    subst hxy
    congr 1
    refine srising_eq ha2 hb2 fun s => ?_
    have hs := h s
    simp only [List.mem_cons] at hs
    constructor
    · intro hsa
      rcases hs.1 (.inr hsa) with e | h'
      · subst e; exact absurd (ha1 s hsa) (ltS_irrefl s)
      · exact h'
    · intro hsb
      rcases hs.2 (.inr hsb) with e | h'
      · subst e; exact absurd (hb1 s hsb) (ltS_irrefl s)
      · exact h'

theorem wrapS {i : Nat} (h : i < 4611686018427387904) : wrap64 ((i : Int) + 1) = ((i + 1 : Nat) : Int) := by
  unfold wrap64; omega

theorem rdOf_nat {α : Type} (d : α) (xs : List α) (i : Nat) : rdOf d xs (i : Int) = xs.getD i d := by simp [rdOf]
theorem rdOf_at {α : Type} {d : α} {xs : List α} {i : Nat} (h : i < xs.length) : rdOf d xs (i : Int) = xs[i] := by
  rw [rdOf_nat, List.getD_eq_getElem?_getD, List.getElem?_eq_getElem h]; rfl

theorem inB_cons (x : ByteArray) (l : List ByteArray) (s : ByteArray) : inB (x :: l) s = (decide (x = s) || inB l s) := rfl

end Go.Proofs.Ytdogmcpmlglkfaa
