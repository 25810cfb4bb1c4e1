/- DiskArmed: the walk of the law. -/
import Derived.Test.YtdogmcpmlglkfaaDS
namespace Go.Proofs.Ytdogmcpmlglkfaa
open Go.RowKit Go.Proofs.YtdogmcpmlglkfaaW.PrintWords

/-- The disk of the law: n bytes x in one file; armed or not; so many operations left; off or not. -/
def xs (n : Nat) : ByteArray := ⟨(List.replicate n (120 : UInt8)).toArray⟩
def dX : ByteArray := ⟨#[120]⟩
def armF (n safe : Nat) : List DFile := if n = 0 then [] else [⟨nF, xs n, safe⟩]
def arm (off armed : Bool) (left : Int) (n safe : Nat) : DSt := ⟨5000, off, left, armed, armF n safe⟩

theorem xs_size (n : Nat) : (xs n).size = n := by simp [xs, ByteArray.size]
theorem xs_succ (n : Nat) : xs n ++ dX = xs (n + 1) := by
  apply WideShapes.bytes_inj
  simp [xs, dX, List.replicate_succ']

theorem armF_used (n safe : Nat) : used (armF n safe) = n := by
  unfold armF
  split
  · rename_i h; rw [h]; rfl
  · rw [one_used, xs_size]

theorem armF_put (n safe : Nat) : dput (armF n safe) ⟨nF, ((dget (armF n safe) nF).getD zfile).data ++ dX, ((dget (armF n safe) nF).getD zfile).safe⟩ = armF (n + 1) (if n = 0 then 0 else safe) := by
  unfold armF
  by_cases h : n = 0
  · subst h
    simp only [if_true]
    show [(⟨nF, (⟨#[]⟩ : ByteArray) ++ dX, 0⟩ : DFile)] = _
    rw [nil_append, if_neg (by omega)]
    rfl
  · rw [if_neg h, if_neg (by omega), if_neg h, one_get]
    show dput [⟨nF, xs n, safe⟩] ⟨nF, xs n ++ dX, safe⟩ = _
    rw [one_put, xs_succ]

theorem arm_go (armed : Bool) (left : Int) (n safe : Nat) (h : ¬ (armed = true ∧ left = 0)) (hn : n < 4000) : appendS (arm false armed left n safe) nF dX = (0, arm false armed (max (left - 1) 0) (n + 1) (if n = 0 then 0 else safe)) := by
  have hb : beginS (arm false armed left n safe) nF = (0, arm false armed (max (left - 1) 0) n safe) := by
    unfold beginS
    rw [if_neg (show ¬ (arm false armed left n safe).off = true from fun h => absurd (show false = true from h) (by decide)), if_neg (show ¬ ((arm false armed left n safe).armed = true ∧ (arm false armed left n safe).left = 0) from h), nF_ok]
    rfl
  have hsz : ¬ (5000 : Int) - (used (armF n safe) : Int) < (dX.size : Int) := by rw [armF_used, show dX.size = 1 from rfl]; omega
  unfold appendS
  rw [hb, if_pos rfl, if_neg (show ¬ ((0, arm false armed (max (left - 1) 0) n safe) : Int × DSt).2.room - (used (arm false armed left n safe).fs : Int) < (dX.size : Int) from hsz)]
  show (0, (⟨5000, false, max (left - 1) 0, armed, dput (armF n safe) ⟨nF, ((dget (armF n safe) nF).getD zfile).data ++ dX, ((dget (armF n safe) nF).getD zfile).safe⟩⟩ : DSt)) = _
  rw [armF_put]
  rfl

theorem arm_stop (off : Bool) (n safe : Nat) : appendS (arm off true 0 n safe) nF dX = (6, arm true true 0 n safe) := by
  have hb : beginS (arm off true 0 n safe) nF = (6, arm true true 0 n safe) := by
    unfold beginS
    cases off with
    | true => rw [if_pos (show (arm true true 0 n safe).off = true from rfl)]
    | false => rw [if_neg (show ¬ (arm false true 0 n safe).off = true from fun h => absurd (show false = true from h) (by decide)), if_pos (show (arm false true 0 n safe).armed = true ∧ (arm false true 0 n safe).left = 0 from ⟨rfl, rfl⟩)]; rfl
  unfold appendS
  rw [hb, if_neg (show ¬ ((6, arm true true 0 n safe) : Int × DSt).1 = 0 from fun h => absurd (show (6 : Int) = 0 from h) (by decide))]

theorem arm_crash (n : Nat) (hn : n < 1000) (ns : List ByteArray) (hp : ns.Perm ((armF n 0).map (·.name))) : crashS (arm true true 0 n 0) [1000] ns = arm false false 0 n n := by
  by_cases h : n = 0
  · subst h
    rfl
  · have hf : armF n 0 = [⟨nF, xs n, 0⟩] := by rw [armF, if_neg h]
    have hf2 : armF n n = [⟨nF, xs n, n⟩] := by rw [armF, if_neg h]
    rw [hf] at hp
    obtain rfl : ns = [nF] := List.perm_singleton.1 hp
    have hc : crashN [1000] 0 ⟨nF, xs n, 0⟩ = n := by
      unfold crashN
      rw [if_pos (show (0 : Int) < ([1000] : List Int).getD 0 0 by decide)]
      show 0 + (min (1000 : Int) (((xs n).size - 0 : Nat) : Int)).toNat = n
      rw [xs_size]; omega
    have he : (xs n).extract 0 n = xs n := by
      apply WideShapes.bytes_inj
      simp [xs]
    have hix : nameIx [nF] nF = 0 := by simp [nameIx]
    unfold crashS crashK arm
    rw [hf, hf2]
    show (⟨5000, false, 0, false, [if nameIx [nF] nF < 1 then crash1 [1000] (nameIx [nF] nF) ⟨nF, xs n, 0⟩ else ⟨nF, xs n, 0⟩]⟩ : DSt) = _
    rw [hix, if_pos (by omega), crash1, hc, he]

theorem arm_files (n safe : Nat) (h : safe ≤ n) (hn : n ≤ 4194304) : ∀ f ∈ armF n safe, f.name.size ≤ maxLen ∧ f.safe ≤ f.data.size ∧ f.data.size ≤ 4194304 := by
  intro f hf
  unfold armF at hf
  split at hf
  · cases hf
  · obtain rfl := List.mem_singleton.1 hf
    exact ⟨of_decide_eq_true (by kernel_rfl), by show safe ≤ (xs n).size; rw [xs_size]; exact h, by show (xs n).size ≤ _; rw [xs_size]; exact hn⟩

theorem arm_len (n safe : Nat) : (armF n safe).length ≤ 1000000 := by
  unfold armF
  split
  · exact Nat.zero_le _
  · show 1 ≤ _; omega

theorem arm_eq {w : World} {p r : Nat} (k : Nat) (h : DRep w p r { (arm false false 0 0 0) with armed := true, left := max (k : Int) 0 }) : DRep w p r (arm false true k 0 0) := by
  rw [show max (k : Int) 0 = k by omega] at h
  exact h

/-- A row of int, laid as a block, is read. -/
theorem i64s_read {w : World} {g : Nat} {t : TypeId} {c : List Value} {xs : List Int} (h : w.heap[g]? = some (.cells c.toArray t)) (hc : c = xs.map (Value.int .i64)) (hl : xs.length ≤ 1000000) : Kd.C (Kd.int .i64) w (some ⟨g, 0, none⟩) xs.length xs := by
  refine ⟨rfl, by omega, fun _ => ⟨_, rfl, fun j p hj => ⟨[.int .i64 p], rfl, rfl, fun i u hi => ?_⟩⟩⟩
  have hi0 : i = 0 := by
    have := (List.getElem?_eq_some_iff.1 hi).1
    simp at this
    exact this
  subst hi0
  simp only [List.getElem?_cons_zero, Option.some.injEq] at hi
  subst hi
  have ha : (⟨g, 0, none⟩ : Addr).add (j * 1 + 0) = ⟨g, j, none⟩ := by unfold Addr.add; split <;> simp_all
  show w.cell? ((⟨g, 0, none⟩ : Addr).add (j * 1 + 0)) = _
  rw [ha]
  simp [World.cell?, h, hc, hj]

set_option maxHeartbeats 2000000 in
set_option maxRecDepth 100000 in
theorem armed_walk (n m : Int) (w : World) (hn : 0 ≤ n ∧ n ≤ 255) (hm : 0 ≤ m ∧ m ≤ 255) :
    Calls Try.prog 4 #[.int .u8 n, .int .u8 m] w fun e w' => e = .returned (.bool true) ∧ Below w.heap.size w w' := by
  obtain ⟨k, hk, hk20⟩ : ∃ k : Nat, n % 20 = (k : Int) ∧ k < 20 := ⟨(n % 20).toNat, by omega, by omega⟩
  go_enter Try.func4, Try.ntmps4
  go_wp2_with (first
    | (go_at_call 9; refine (new_ok 5000 _ (by omega) (by omega)).mono ?_; rintro e w1 ⟨p, r, rfl, hd1, hp, hr, hb1⟩; have HD1 := Lib.hid (show DRep w1 p r (arm false false 0 0 0) from hd1); have HB1 := Lib.hid hb1; clear hd1 hb1)
    | (go_at_call 8; refine (awake_any _).mono ?_; rintro e w2 ⟨rfl, hb2⟩; have HD2 := Lib.hid (HD1.out.below hb2); have HB2 := Lib.hid (HB1.out.trans (hb2.mono HB1.out.size)); clear hb2)
    | (go_at_call 14; refine (arm_any (k : Int) HD2.out).mono ?_; rintro e w3 ⟨rfl, hd3, hf3⟩; have HD3 := Lib.hid (show DRep w3 p r (arm false true k 0 0) from arm_eq k hd3); have HB3 := Lib.hid (hf3.to_below HB2.out hp hr); clear hd3 hf3))
  go_loopw [7] (fun i wr => ∃ j : Nat, j ≤ k ∧ i = .int .i64 j ∧ DRep wr p r (arm false true ((k - j : Nat) : Int) j 0) ∧ Below w.heap.size w wr) (fun i _ => k - (intOf i).toNat)
  case atStart => exact ⟨0, Nat.zero_le _, rfl, HD3.out, HB3.out⟩
  case round =>
    obtain ⟨j, hj, rfl, hdr, hbr⟩ := hrel
    have HDR := Lib.hid hdr
    have HBR := Lib.hid hbr
    clear hdr hbr
    by_cases hlt : j < k
    · have hgo := arm_go true ((k - j : Nat) : Int) j 0 (fun h => by have := h.2; omega) (by omega)
      rw [show max (((k - j : Nat) : Int) - 1) 0 = ((k - (j + 1) : Nat) : Int) by omega, show (if j = 0 then 0 else 0) = 0 by split <;> rfl] at hgo
      have HGO := Lib.hid hgo
      have HU := Lib.hid (show (used (arm false true ((k - j : Nat) : Int) j 0).fs : Int) ≤ (arm false true ((k - j : Nat) : Int) j 0).room by show (used (armF j 0) : Int) ≤ 5000; rw [armF_used]; omega)
      have hl0 : 0 ≤ (arm false true ((k - j : Nat) : Int) j 0).left := by show (0 : Int) ≤ ((k - j : Nat) : Int); omega
      have hl1 : (arm false true ((k - j : Nat) : Int) j 0).left ≤ 9223372036854775807 := by show ((k - j : Nat) : Int) ≤ _; omega
      have HL0 := Lib.hid hl0
      have HL1 := Lib.hid hl1
      clear hgo hl0 hl1
      go_wp2_with (first
        | (go_at_call 10; refine (append_any nF dX HDR.out HL0.out HL1.out (of_decide_eq_true rfl) HU.out).mono ?_; rintro e w4 ⟨rfl, hd4, hf4⟩; rw [HGO.out] at hd4 ⊢; have HD4 := Lib.hid hd4; have HB4 := Lib.hid (hf4.to_below HBR.out hp hr); clear hd4 hf4)
        | (go_at_call 15; refine (on_any HD4.out).mono ?_; rintro e w5 ⟨rfl, hb5⟩; rw [show (arm false true ((k - (j + 1) : Nat) : Int) (j + 1) 0).off = false from rfl]; have HB5 := Lib.hid (HB4.out.trans (hb5.mono HB4.out.size)); have HD5 := Lib.hid (HD4.out.below hb5); clear hb5))
      exact ⟨⟨j + 1, by omega, by go_num, HD5.out, HB5.out⟩, by simp [intOf]; omega⟩
    · obtain rfl : j = k := by omega
      rw [Nat.sub_self] at HDR
      obtain ⟨q, hq, hq5⟩ : ∃ q : Nat, m % 5 = (q : Int) ∧ q < 5 := ⟨(m % 5).toNat, by omega, by omega⟩
      go_wp2_with fail
      obtain ⟨wo, rfl⟩ : ∃ wo : World, wo = wr := ⟨_, rfl⟩
      have HU2 := Lib.hid (show ∀ (o : Bool), (used (arm o true 0 j 0).fs : Int) ≤ (arm o true 0 j 0).room from fun o => by show (used (armF j 0) : Int) ≤ 5000; rw [armF_used]; omega)
      have HU3 := Lib.hid (show used (arm true true 0 j 0).fs ≤ 4611686018427387904 by show used (armF j 0) ≤ _; rw [armF_used]; omega)
      have HUE := Lib.hid (show used (arm true true 0 j 0).fs = j from armF_used j 0)
      go_loopw [8] (fun i wr => ∃ t : Nat, t ≤ q + 1 ∧ i = .int .i64 t ∧ DRep wr p r (arm (decide (0 < t)) true 0 j 0) ∧ Below w.heap.size w wr) (fun i _ => q + 1 - (intOf i).toNat)
      case atStart => exact ⟨0, Nat.zero_le _, rfl, HDR.out, HBR.out⟩
      case round =>
        obtain ⟨t, ht, rfl, hdr2, hbr2⟩ := hrel
        have HDR2 := Lib.hid hdr2
        have HBR2 := Lib.hid hbr2
        have HSTOP := Lib.hid (arm_stop (decide (0 < t)) j 0)
        clear hdr2 hbr2
        by_cases htq : t ≤ q
        · go_wp2_with (first
            | (go_at_call 10; refine (append_any nF dX HDR2.out (Int.le_refl 0) (of_decide_eq_true rfl) (of_decide_eq_true rfl) (HU2.out _)).mono ?_; rintro e w4 ⟨rfl, hd4, hf4⟩; rw [HSTOP.out] at hd4 ⊢; have HD4 := Lib.hid hd4; have HB4 := Lib.hid (hf4.to_below HBR2.out hp hr); clear hd4 hf4)
            | (go_at_call 15; refine (on_any HD4.out).mono ?_; rintro e w5 ⟨rfl, hb5⟩; rw [show (arm true true 0 j 0).off = true from rfl]; have HB5 := Lib.hid (HB4.out.trans (hb5.mono HB4.out.size)); have HD5 := Lib.hid (HD4.out.below hb5); clear hb5)
            | (go_at_call 16; refine (used_any HD5.out HU3.out).mono ?_; rintro e w6 ⟨rfl, hb6⟩; rw [HUE.out]; have HB6 := Lib.hid (HB5.out.trans (hb6.mono HB5.out.size)); have HD6 := Lib.hid (HD5.out.below hb6); clear hb6))
          exact ⟨⟨t + 1, by omega, by go_num, by rw [show decide (0 < t + 1) = true from decide_eq_true (by omega)]; exact HD6.out, HB6.out⟩, by simp [intOf]; omega⟩
        · obtain rfl : t = q + 1 := by omega
          rw [show decide (0 < q + 1) = true from decide_eq_true (by omega)] at HDR2
          have hlp := HDR2.out.lt
          have hlr := HDR2.out.2.lt
          have hnp : wr.heap.size ≠ p := by omega
          have hnr : wr.heap.size ≠ r := by omega
          have HKO := Lib.hid (show ∀ f ∈ (arm true true 0 j 0).fs, f.name.size ≤ maxLen ∧ f.safe ≤ f.data.size ∧ f.data.size ≤ 4194304 from arm_files j 0 (by omega) (by omega))
          have HKL := Lib.hid (show (arm true true 0 j 0).fs.length ≤ 1000000 from arm_len j 0)
          have HCR := Lib.hid (fun ns hns => arm_crash j (by omega) ns hns)
          have hgo := arm_go false 0 j j (fun h => by cases h.1) (by omega)
          rw [show max ((0 : Int) - 1) 0 = 0 by omega, show (if j = 0 then 0 else j) = j by split <;> omega] at hgo
          have HGO := Lib.hid hgo
          have HU5 := Lib.hid (show (used (arm false false 0 j j).fs : Int) ≤ (arm false false 0 j j).room by show (used (armF j j) : Int) ≤ 5000; rw [armF_used]; omega)
          have HU6 := Lib.hid (show used (arm false false 0 (j + 1) j).fs ≤ 4611686018427387904 by show used (armF (j + 1) j) ≤ _; rw [armF_used]; omega)
          have HU7 := Lib.hid (show used (arm false false 0 (j + 1) j).fs = j + 1 from armF_used (j + 1) j)
          clear hgo hlp hlr HSTOP
          go_wp2_with (first
            | (go_at_call 12; refine (crash_any [1000] (HDR2.out.below ((Below.refl _ _).alloc (Nat.le_refl _) _)) HKO.out HKL.out (Nat.le_refl 1) (i64s_read (heap_alloc_new _ _) rfl (by simp)) (fun ad e _ => by cases e; exact ⟨hnp, hnr⟩)).mono ?_; rintro e w7 ⟨ns, rfl, hperm, _, _, hd7, hf7⟩; rw [HCR.out ns hperm] at hd7; have HD7 := Lib.hid hd7; have HB7 := Lib.hid (hf7.to_below (HBR2.out.alloc HBR2.out.size _) hp hr); clear hd7 hf7 hperm)
            | (go_at_call 15; refine (on_any HD7.out).mono ?_; rintro e w8 ⟨rfl, hb8⟩; rw [show (arm false false 0 j j).off = false from rfl]; have HB8 := Lib.hid (HB7.out.trans (hb8.mono HB7.out.size)); have HD8 := Lib.hid (HD7.out.below hb8); clear hb8)
            | (go_at_call 10; refine (append_any nF dX HD8.out (Int.le_refl 0) (of_decide_eq_true rfl) (of_decide_eq_true rfl) HU5.out).mono ?_; rintro e w9 ⟨rfl, hd9, hf9⟩; rw [HGO.out] at hd9 ⊢; have HD9 := Lib.hid hd9; have HB9 := Lib.hid (hf9.to_below HB8.out hp hr); clear hd9 hf9)
            | (go_at_call 16; refine (used_any HD9.out HU6.out).mono ?_; rintro e w10 ⟨rfl, hb10⟩; rw [HU7.out]; have HB10 := Lib.hid (HB9.out.trans (hb10.mono HB9.out.size)); clear hb10))
          go_ret
          exact ⟨rfl, HB10.out⟩

end Go.Proofs.Ytdogmcpmlglkfaa
