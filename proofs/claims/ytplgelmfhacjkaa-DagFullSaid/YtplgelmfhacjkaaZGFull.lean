/- DagFull: the names of numbers, the chain, the walk of the law, the row. -/
import Derived.Test.YtplgelmfhacjkaaZD
import Derived.Test.YtplgelmfhacjkaaWMore

namespace Go.Proofs.Ytplgelmfhacjkaa
open Go.RowKit Go.Proofs.YtplgelmfhacjkaaW.PrintWords Go.Proofs.Ytplgelmfhacjkaa.PRef

/-- The id of a number. -/
def nameN (i : Nat) : ByteArray := ⟨#[UInt8.ofNat (97 + i / 100), UInt8.ofNat (97 + i / 10 % 10), UInt8.ofNat (97 + i % 10)]⟩

theorem nameN_inj {i j : Nat} (hi : i < 1000) (hj : j < 1000) (h : nameN i = nameN j) : i = j := by
  unfold nameN at h
  simp only [ByteArray.mk.injEq, Array.mk.injEq, List.cons.injEq, and_true] at h
  obtain ⟨h1, h2, h3⟩ := h
  have e1 := congrArg UInt8.toNat h1
  have e2 := congrArg UInt8.toNat h2
  have e3 := congrArg UInt8.toNat h3
  simp only [UInt8.toNat_ofNat'] at e1 e2 e3
  omega

theorem nameN_size (i : Nat) : (nameN i).size = 3 := rfl

/-- The chain of n entries: each has the one ahead of it as its parent. -/
def chain (n : Nat) : List Ent := (List.range n).map fun i => (nameN i, if i = 0 then [] else [nameN (i - 1)])

theorem chain_succ (n : Nat) : chain (n + 1) = chain n ++ [(nameN n, if n = 0 then [] else [nameN (n - 1)])] := by
  unfold chain
  rw [List.range_succ, List.map_append]
  rfl

theorem chain_len (n : Nat) : (chain n).length = n := by simp [chain]

theorem chain_has {n i : Nat} (hi : i < 1000) (hn : n < 1000) : nameN i ∈ idsG (chain n) ↔ i < n := by
  simp only [idsG, chain, List.map_map, List.mem_map, List.mem_range, Function.comp]
  constructor
  · rintro ⟨j, hj, e⟩
    have := nameN_inj (by omega) hi e
    omega
  · intro h
    exact ⟨i, h, rfl⟩

theorem srt_one_text (x : ByteArray) : srt [x] = [x] := by
  refine srising_eq (srt_rising _) (List.pairwise_singleton _ _) fun s => srt_mem [x] s

theorem chain_add {n : Nat} (hn : n < 300) : whyG (chain n) (nameN n) (if n = 0 then [] else [nameN (n - 1)]) = 0 ∧ addG (chain n) (nameN n) (if n = 0 then [] else [nameN (n - 1)]) = chain (n + 1) := by
  have h1 : hasG (chain n) (nameN n) = false := hasG_false.2 (by rw [chain_has (by omega) (by omega)]; omega)
  have hw : whyG (chain n) (nameN n) (if n = 0 then [] else [nameN (n - 1)]) = 0 := by
    unfold whyG
    rw [if_neg (by rw [nameN_size]; omega), if_neg (by rw [h1]; decide), if_neg (by rw [chain_len]; omega), if_pos]
    split
    · rfl
    · simp only [List.all_cons, List.all_nil, Bool.and_true]
      exact hasG_iff.2 ((chain_has (by omega) (by omega)).2 (by omega))
  refine ⟨hw, ?_⟩
  unfold addG
  rw [if_pos hw, chain_succ]
  congr 3
  split
  · rfl
  · exact srt_one_text _

theorem chain_full {i : Nat} (hi : 300 ≤ i) (hi2 : i < 1000) (ps : List ByteArray) : whyG (chain 300) (nameN i) ps = 3 ∧ addG (chain 300) (nameN i) ps = chain 300 := by
  have h1 : hasG (chain 300) (nameN i) = false := hasG_false.2 (by rw [chain_has hi2 (by omega)]; omega)
  have hw : whyG (chain 300) (nameN i) ps = 3 := by
    unfold whyG
    rw [if_neg (by rw [nameN_size]; omega), if_neg (by rw [h1]; decide), if_pos (by rw [chain_len]; omega)]
  refine ⟨hw, ?_⟩
  unfold addG
  rw [if_neg (by rw [hw]; decide)]

theorem chain_heads {n : Nat} (hn : 0 < n) (hn2 : n ≤ 300) : IsHeads (chain n) [nameN (n - 1)] := by
  refine ⟨List.pairwise_singleton _ _, fun x => ?_⟩
  rw [List.mem_singleton]
  constructor
  · rintro rfl
    refine ⟨(chain_has (by omega) (by omega)).2 (by omega), fun e he hx => ?_⟩
    simp only [chain, List.mem_map, List.mem_range] at he
    obtain ⟨j, hj, rfl⟩ := he
    split at hx
    · cases hx
    · have := nameN_inj (by omega) (by omega) (List.mem_singleton.1 hx)
      omega
  · rintro ⟨h1, h2⟩
    simp only [idsG, chain, List.map_map, List.mem_map, List.mem_range, Function.comp] at h1
    obtain ⟨i, hi, rfl⟩ := h1
    by_cases e : i = n - 1
    · rw [e]
    · exfalso
      refine h2 (nameN (i + 1), [nameN i]) ?_ (by simp)
      simp only [chain, List.mem_map, List.mem_range]
      exact ⟨i + 1, by omega, by simp⟩

end Go.Proofs.Ytplgelmfhacjkaa

namespace Go.Proofs.Ytplgelmfhacjkaa
open Go.RowKit Go.Proofs.YtplgelmfhacjkaaW.PrintWords Go.Proofs.Ytplgelmfhacjkaa.PRef

theorem name_fin : ∀ i : Fin 310, palaverlaw12_name.f ((i.val : Nat) : Int) = some (nameN i.val) := by decide +kernel

theorem name_calls (i : Nat) (hi : i < 310) (w : World) : Calls Try.prog 11 #[.int .i64 i] w fun e w' => e = .returned (.string (nameN i)) ∧ Below w.heap.size w w' :=
  palaverlaw12_name.calls _ _ w (name_fin ⟨i, hi⟩)

end Go.Proofs.Ytplgelmfhacjkaa

namespace Go.Proofs.Ytplgelmfhacjkaa
open Go.RowKit Go.Proofs.YtplgelmfhacjkaaW.PrintWords Go.Proofs.YtplgelmfhacjkaaW.PrintMore Go.Proofs.Ytplgelmfhacjkaa.PRef

theorem chain_min {i : Nat} (hi : i < 310) : ∃ ps : List ByteArray, (ps = if 0 < i ∧ i ≤ 300 then [nameN (i - 1)] else []) ∧ whyG (chain (min i 300)) (nameN i) ps = (if i < 300 then 0 else 3) ∧ addG (chain (min i 300)) (nameN i) ps = chain (min (i + 1) 300) := by
  refine ⟨_, rfl, ?_⟩
  by_cases h : i < 300
  · have h1 : (if 0 < i ∧ i ≤ 300 then [nameN (i - 1)] else []) = (if i = 0 then [] else [nameN (i - 1)]) := by
      by_cases h0 : i = 0
      · rw [if_neg (by omega), if_pos h0]
      · rw [if_pos (by omega), if_neg h0]
    rw [h1, if_pos h, Nat.min_eq_left (by omega), Nat.min_eq_left (by omega)]
    exact chain_add h
  · rw [if_neg h, Nat.min_eq_right (by omega), Nat.min_eq_right (by omega)]
    exact chain_full (by omega) (by omega) _

theorem min_nat (x y r : Int) (h : (if y < x then y else x) = r) : Builtin.min_ #[3, 3] 3 #[.int .i64 x, .int .i64 y] = pure (.int .i64 r) := by
  rw [min_two, min2_int, h]
  rfl

set_option maxHeartbeats 8000000 in
set_option maxRecDepth 100000 in
theorem dfull_walk (n : Int) (h0 : 0 ≤ n) (h1 : n ≤ 65535) (w : World) : Calls Try.prog 3 #[.int .u16 n] w fun e w' => e = .returned (.bool true) ∧ Below w.heap.size w w' := by
  go_enter Try.func3, Try.ntmps3
  go_wp2_with (go_at_call 10; refine (new_any _).mono ?_; rintro e w2 ⟨p, a, b, rfl, hp, ha, hb, hd, hbl⟩; have HD2 := Lib.hid hd; have HB2 := Lib.hid hbl; clear hd hbl)
  obtain ⟨K, hK, hK1, hK2⟩ : ∃ K : Nat, (K : Int) = 295 + n % 10 ∧ 295 ≤ K ∧ K ≤ 304 := ⟨(295 + n % 10).toNat, by omega, by omega, by omega⟩
  rw [← hK]
  clear hK
  go_loopw [5] (fun iv wr => ∃ i : Nat, iv = .int .i64 i ∧ i ≤ K ∧ DagRep wr p a b (chain (min i 300)) ∧ Below w.heap.size w wr) (fun iv _ => K - (intOf iv).toNat)
  case atStart => exact ⟨0, rfl, Nat.zero_le _, HD2.out, HB2.out⟩
  case round =>
    obtain ⟨i, rfl, hi, hd, hbl⟩ := hrel
    have HD := Lib.hid hd
    have HB := Lib.hid hbl
    clear hd hbl
    by_cases hlt : i < K
    · have hlt' : (i : Int) < (K : Int) := by omega
      have hw1 : IntKind.i64.wrap ((i : Int) + 1) = ((i + 1 : Nat) : Int) := wrapN (by omega)
      obtain ⟨ps, hps, hwy, had⟩ := chain_min (i := i) (by omega)
      have HWY := Lib.hid hwy
      have HADD := Lib.hid had
      clear hwy had
      by_cases hrow : 0 < i ∧ i ≤ 300
      · rw [if_pos hrow] at hps
        subst hps
        have hr1 : (0 : Int) < (i : Int) := by omega
        have hr2 : (i : Int) ≤ 300 := by omega
        have hw2 : IntKind.i64.wrap ((i : Int) - 1) = ((i - 1 : Nat) : Int) := (IntWalk.i64_in _ (by omega)).trans (by omega)
        have N1 := Lib.hid (name_calls (i - 1) (by omega))
        have N2 := Lib.hid (name_calls i (by omega))
        have ADD := Lib.hid (fun (W V : World) (h : DagRep W p a b (chain (min i 300))) (hr : Kd.C Kd.string W (some ⟨V.heap.size, 0, none⟩) 1 [nameN (i - 1)]) => addD_any h (nameN i) hr (Nat.le_refl 1) (by simp))
        rw [HWY.out, HADD.out] at ADD
        by_cases h3 : i < 300
        · rw [if_pos h3] at ADD
          have h3' : (i : Int) < 300 := by omega
          go_wp2_with (first
            | (go_at_call 11; refine (N1.out _).mono ?_; rintro e w3 ⟨rfl, hb3⟩; have HD3 := Lib.hid ((HD.out.below hb3).below ((Below.refl _ w3).alloc (Nat.le_refl _) (.cells #[.string (nameN (i - 1))] 9))); have HB3 := Lib.hid (HB.out.trans (hb3.mono HB.out.size)); clear hb3 N1)
            | (go_at_call 11; refine (N2.out _).mono ?_; rintro e w4 ⟨rfl, hb4⟩; have HD4 := Lib.hid (HD3.out.below hb4); have HR4 := Lib.hid (Kd.C_below (row_strs w3 [nameN (i - 1)] (by simp)) hb4); have HB4 := Lib.hid ((HB3.out.alloc HB3.out.size _).trans (hb4.mono (by rw [asz]; have := HB3.out.size; omega))); clear hb4 N2)
            | (go_at_call 12; refine (ADD.out w4 w3 HD4.out HR4.out).mono ?_; rintro e w5 ⟨rfl, hd5, hf5⟩; have HD5 := Lib.hid hd5; have HB5 := Lib.hid (HB4.out.trans (hf5.to_below (B := w.heap.size) HB4.out.size (fun k hk h => h.elim (fun e => by omega) (fun e => by omega)))); clear hd5 hf5))
          exact ⟨⟨i + 1, rfl, by omega, HD5.out, HB5.out⟩, by simp [intOf]; omega⟩
        · rw [if_neg h3] at ADD
          have h3' : ¬ (i : Int) < 300 := by omega
          have h3'' : (300 : Int) ≤ (i : Int) := by omega
          go_wp2_with (first
            | (go_at_call 11; refine (N1.out _).mono ?_; rintro e w3 ⟨rfl, hb3⟩; have HD3 := Lib.hid ((HD.out.below hb3).below ((Below.refl _ w3).alloc (Nat.le_refl _) (.cells #[.string (nameN (i - 1))] 9))); have HB3 := Lib.hid (HB.out.trans (hb3.mono HB.out.size)); clear hb3 N1)
            | (go_at_call 11; refine (N2.out _).mono ?_; rintro e w4 ⟨rfl, hb4⟩; have HD4 := Lib.hid (HD3.out.below hb4); have HR4 := Lib.hid (Kd.C_below (row_strs w3 [nameN (i - 1)] (by simp)) hb4); have HB4 := Lib.hid ((HB3.out.alloc HB3.out.size _).trans (hb4.mono (by rw [asz]; have := HB3.out.size; omega))); clear hb4 N2)
            | (go_at_call 12; refine (ADD.out w4 w3 HD4.out HR4.out).mono ?_; rintro e w5 ⟨rfl, hd5, hf5⟩; have HD5 := Lib.hid hd5; have HB5 := Lib.hid (HB4.out.trans (hf5.to_below (B := w.heap.size) HB4.out.size (fun k hk h => h.elim (fun e => by omega) (fun e => by omega)))); clear hd5 hf5))
          exact ⟨⟨i + 1, rfl, by omega, HD5.out, HB5.out⟩, by simp [intOf]; omega⟩
      · rw [if_neg hrow] at hps
        subst hps
        have N2 := Lib.hid (name_calls i (by omega))
        have ADD := Lib.hid (fun (W : World) (h : DagRep W p a b (chain (min i 300))) => addD_any h (nameN i) (nil_strs W) (Nat.le_refl 0) (by simp))
        rw [HWY.out, HADD.out] at ADD
        by_cases h3 : i < 300
        · rw [if_pos h3] at ADD
          have h3' : (i : Int) < 300 := by omega
          have hr1 : ¬ (0 : Int) < (i : Int) := by omega
          go_wp2_with (first
            | (go_at_call 11; refine (N2.out _).mono ?_; rintro e w4 ⟨rfl, hb4⟩; have HD4 := Lib.hid (HD.out.below hb4); have HB4 := Lib.hid (HB.out.trans (hb4.mono HB.out.size)); clear hb4 N2)
            | (go_at_call 12; refine (ADD.out w4 HD4.out).mono ?_; rintro e w5 ⟨rfl, hd5, hf5⟩; have HD5 := Lib.hid hd5; have HB5 := Lib.hid (HB4.out.trans (hf5.to_below (B := w.heap.size) HB4.out.size (fun k hk h => h.elim (fun e => by omega) (fun e => by omega)))); clear hd5 hf5))
          exact ⟨⟨i + 1, rfl, by omega, HD5.out, HB5.out⟩, by simp [intOf]; omega⟩
        · rw [if_neg h3] at ADD
          have h3' : ¬ (i : Int) < 300 := by omega
          have h3'' : (300 : Int) ≤ (i : Int) := by omega
          have hr1 : (0 : Int) < (i : Int) := by omega
          have hr2 : ¬ (i : Int) ≤ 300 := by omega
          go_wp2_with (first
            | (go_at_call 11; refine (N2.out _).mono ?_; rintro e w4 ⟨rfl, hb4⟩; have HD4 := Lib.hid (HD.out.below hb4); have HB4 := Lib.hid (HB.out.trans (hb4.mono HB.out.size)); clear hb4 N2)
            | (go_at_call 12; refine (ADD.out w4 HD4.out).mono ?_; rintro e w5 ⟨rfl, hd5, hf5⟩; have HD5 := Lib.hid hd5; have HB5 := Lib.hid (HB4.out.trans (hf5.to_below (B := w.heap.size) HB4.out.size (fun k hk h => h.elim (fun e => by omega) (fun e => by omega)))); clear hd5 hf5))
          exact ⟨⟨i + 1, rfl, by omega, HD5.out, HB5.out⟩, by simp [intOf]; omega⟩
    · obtain rfl : i = K := by omega
      obtain ⟨M, hM⟩ : ∃ M, M = min i 300 := ⟨_, rfl⟩
      rw [← hM] at HD
      have hM1 : 0 < M ∧ M ≤ 300 := by omega
      have HL := Lib.hid (lenD_any HD.out)
      rw [chain_len] at HL
      have HOR := Lib.hid (fun (W : World) (h : DagRep W p a b (chain M)) => orderD_any h)
      have HHE := Lib.hid (fun (W : World) (h : DagRep W p a b (chain M)) => heads_row h (chain_heads hM1.1 hM1.2))
      have hMi : min (i : Int) 300 = (M : Int) := by omega
      by_cases h3 : i < 300
      · have h3' : (i : Int) < 300 := by omega
        obtain rfl : M = i := by omega
        clear hM hMi
        have hmn := min_nat (M : Int) 300 (M : Int) (by rw [if_neg (by omega)])
        go_wp2_with (first
          | (go_at_call 13; refine HL.out.mono ?_; rintro e w6 ⟨rfl, hw6⟩; rw [hw6]; clear hw6 HL)
          | (go_at_call 14; refine (HOR.out _ HD.out).mono ?_; rintro e w7 ⟨v7, O, rfl, hio, ho, hb7⟩; have hol := hio.1; rw [chain_len] at hol; rw [hol] at ho; obtain ⟨A7, c7, rfl, _⟩ := own_slice ho; have HD7 := Lib.hid (HD.out.below hb7); have HB7 := Lib.hid (HB.out.trans (hb7.mono HB.out.size)); clear hio hol ho hb7 HOR)
          | (go_at_call 15; refine (HHE.out _ HD7.out).mono ?_; rintro e w8 ⟨A8, c8, rfl, _, _, hb8⟩; have HB8 := Lib.hid (HB7.out.trans (hb8.mono HB7.out.size)); clear hb8 HHE)
          | (go_at_call 16; refine (awake12 _).mono ?_; rintro e w9 ⟨rfl, hb9⟩; have HB9 := Lib.hid (HB8.out.trans (hb9.mono HB8.out.size)); clear hb9))
        go_ret
        exact ⟨rfl, HB9.out⟩
      · have hmn := min_nat (i : Int) 300 (M : Int) (by split <;> omega)
        clear hM hMi
        go_wp2_with (first
          | (go_at_call 13; refine HL.out.mono ?_; rintro e w6 ⟨rfl, hw6⟩; rw [hw6]; clear hw6 HL)
          | (go_at_call 14; refine (HOR.out _ HD.out).mono ?_; rintro e w7 ⟨v7, O, rfl, hio, ho, hb7⟩; have hol := hio.1; rw [chain_len] at hol; rw [hol] at ho; obtain ⟨A7, c7, rfl, _⟩ := own_slice ho; have HD7 := Lib.hid (HD.out.below hb7); have HB7 := Lib.hid (HB.out.trans (hb7.mono HB.out.size)); clear hio hol ho hb7 HOR)
          | (go_at_call 15; refine (HHE.out _ HD7.out).mono ?_; rintro e w8 ⟨A8, c8, rfl, _, _, hb8⟩; have HB8 := Lib.hid (HB7.out.trans (hb8.mono HB7.out.size)); clear hb8 HHE)
          | (go_at_call 16; refine (awake12 _).mono ?_; rintro e w9 ⟨rfl, hb9⟩; have HB9 := Lib.hid (HB8.out.trans (hb9.mono HB8.out.size)); clear hb9))
        go_ret
        exact ⟨rfl, HB9.out⟩

end Go.Proofs.Ytplgelmfhacjkaa

namespace Go.Proofs.Ytplgelmfhacjkaa
open Go.ChangeShapes Go.WideShapes Go.ChangeAt Go.RowKit Go.Proofs.YtplgelmfhacjkaaW.PrintWords Go.Proofs.Ytplgelmfhacjkaa.PRef

set_option maxRecDepth 100000 in
theorem dagFull_lifted (os : Os) (started : os.Started) (H : Type) (enc : TypeId × Value → H) :
    ReturnsInHanded {} Try.checked os 3 .any (Rows.dagFullSpec.pre6 enc Try.prog Try.f3 Rows.dagFullRow.domain false) (Rows.dagFullSpec.post enc Try.prog Try.f3 false true false false) := by
  refine returnsInHanded_of_change_sized (C := Try.checked) own0 started (by kernel_rfl) Try.func3
    (ChangeSpec.witness6 (enc := enc) (C := Try.checked) false ⟨#[], #[.int .u16 0], []⟩ 8 (by kernel_rfl) (by kernel_rfl) (by kernel_rfl) (by kernel_rfl)) ?_
  intro W base args ds gs before hval0 hW hcnd hsz0 _
  have hval : ∀ (j : Nat) t v, Try.f3.params[j]? = some t → args[j]? = some v → Value.okWide Try.prog W .any base t v := hval0
  have hW' := hW
  obtain ⟨p, q, hA0, hV, rfl, hfz, hnd⟩ := hW
  have hA : DataW.TrodAll enc Try.prog W 0 (fun _ => true) true Try.f3.params.toList args.toList ds p := hA0
  rw [Try.params3] at hA hval
  obtain ⟨v0, vs0, d0, ds0, p0, q0, hargs, rfl, rfl, h0, r0⟩ := trodAll_cons hA
  obtain ⟨rfl, rfl, rfl⟩ := trodAll_nil r0
  obtain rfl : args = #[v0] := by cases args; simp_all
  obtain ⟨rfl, rfl⟩ := trodVars_none hV
  obtain ⟨a0, rfl⟩ := okWide_int Try.underlying22 (hval 0 22 v0 rfl rfl)
  have k0 := h0
  have lt0 : ∀ x ∈ p0, x.block < W.heap.size := by obtain ⟨m, hm⟩ := k0; exact DataW.trod_lt m _ _ _ hm
  obtain ⟨m0, hm0⟩ := h0
  obtain ⟨n0, e0, w0⟩ := Opens.int Try.underlying22 m0 _ _ hm0
  cases e0
  have b0 := u16_range w0
  clear hA0 hval0 hsz0
  refine (dfull_walk _ b0.1 b0.2 W).mono fun e W' ⟨he, bel⟩ => ?_
  subst he
  exact ⟨_, rfl, _, _, _, [], _, [], hW', trodAll_mk1 (shut_bool Try.underlying4 _), (trodAll_cons_mk (Below.trod laid (by kernel_rfl) (of_decide_eq_true (by kernel_rfl)) k0 bel lt0) trodAll_mk0), rfl, bel.frame _, fun h => by cases h⟩

theorem dagFull_over : Rows.dagFullRow.holds Try.pinned (OpenSpec.ofChange Rows.dagFullSpec) :=
  OpenClaim.holds_of_wide 3 Try.f3 rfl rfl rfl rfl rfl rfl rfl ⟨rfl, rfl, rfl, rfl, rfl⟩ rfl rfl rfl rfl rfl (by kernel_rfl) Try.func3 (by kernel_rfl)
    (of_decide_eq_true (by kernel_rfl)) (by unfold Func.isWrapper; first | (rw [if_pos (by decide +kernel)]; kernel_rfl) | (rw [if_neg (by decide +kernel)]; exact ⟨rfl, rfl⟩))
    (fun os started H enc _ => dagFull_lifted os started H enc)

theorem dagFull_holds : Rows.DagFullSaid := dagFull_over
#print axioms dagFull_holds

end Go.Proofs.Ytplgelmfhacjkaa
