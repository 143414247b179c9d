/-
  lateenref01 .. 03: words of numbers, floats, arguments.
-/
import Derived.Test.YtojdbliehgejbaaDoorGen
import Derived.Test.YtojdbliehgejbaaDoorFwApi2
import Derived.Test.YtojdbliehgejbaaDoorFwVst
import Derived.Test.YtojdbliehgejbaaDoorFwFree
import Derived.Test.YtojdbliehgejbaaDoorPlPut
import Derived.Test.YtojdbliehgejbaaDoorFwApS
namespace Go.Proofs.YtojdbliehgejbaaDoor
open Go.Fw Go.Pl.Api Go.Pl.Put Go.Pl.Lines

/-! Numbers as texts -/
@[reducible] def eU8 : Elem UInt8 := .cell byV (fun _ => rfl)
theorem flat_u8 : eU8.Flat := Elem.cell_flat _ _
theorem rd_bytes {h : Heap} {s : Sl} {l : List UInt8} (r : rdSl eU8 h s l) {K : ByteArray → Prop} (hK : K ⟨l.toArray⟩) : toS h s K := by
  obtain ⟨h1, h2, h3, h4, h5⟩ := r
  refine ⟨⟨l.toArray⟩, h1.symm, ?_, hK⟩
  rcases h5 with rfl | ⟨a, ha, hs, hr⟩
  · exact .inl rfl
  · refine .inr ⟨a, ha, fun j u hj => ?_⟩
    unfold bytesV at hj
    rw [List.getElem?_map] at hj
    obtain ⟨b, hb, rfl⟩ := Option.map_eq_some_iff.1 hj
    obtain ⟨hjl, rfl⟩ := List.getElem?_eq_some_iff.1 hb
    have hjl : j < l.length := by simpa using hjl
    have := hr j hjl
    have e : eU8.size = 1 := rfl
    rw [e, Nat.mul_one] at this
    have e2 : (⟨l.toArray⟩ : ByteArray).data.toList[j]'(by simpa using hjl) = l[j] := by simp
    rw [e2]
    exact this
theorem wrap_u64 {n : Int} (h0 : 0 ≤ n) (h1 : n < 18446744073709551616) : IntKind.u64.wrap n = n := by
  simp only [IntKind.wrap, IntKind.bits, IntKind.signed, Bool.false_and, Bool.false_eq_true, if_false]
  omega
theorem wrap_b8 {n : Int} (h0 : 0 ≤ n) (h1 : n < 256) : IntKind.u8.wrap n = n := by
  simp only [IntKind.wrap, IntKind.bits, IntKind.signed, Bool.false_and, Bool.false_eq_true, if_false]
  omega
theorem psize_calls {h : Heap} {n : Int} (h0 : -9223372036854775808 ≤ n) (h1 : n ≤ 9223372036854775807) : ACalls Tryd.prog F_lateenref01_size [.int .i64 n] h (fun v h' => v = .int .u64 (n.natAbs : Int) ∧ h' = h) := by
  refine lateenref01_size_of ?_
  unfold lateenref01_size
  refine ifB_intro (fun hc => ?_) (fun hc => ?_)
  · have hc := of_decide_eq_true hc
    unfold ar
    refine ⟨?_, rfl⟩
    congr 1
    simp only [IntKind.wrap, IntKind.bits, IntKind.signed, Bool.false_and, Bool.false_eq_true, if_false]
    omega
  · have hc := of_decide_eq_false hc
    refine ⟨?_, rfl⟩
    rw [wrap_u64 (by omega) (by omega)]
    congr 1
    omega
theorem digit_val (m : Nat) : IntKind.u8.wrap (IntKind.u64.wrap (48 + Int.tmod (m : Int) 10)) = ((UInt8.ofNat (48 + m % 10)).toNat : Int) := by
  have e : Int.tmod (m : Int) 10 = ((m % 10 : Nat) : Int) := by
    rw [Int.tmod_eq_emod_of_nonneg (by omega)]
    omega
  have hlt : m % 10 < 10 := Nat.mod_lt _ (by omega)
  rw [e, wrap_u64 (by omega) (by omega), wrap_b8 (by omega) (by omega)]
  rw [UInt8.toNat_ofNat']
  omega
theorem iput_calls {h : Heap} {n : Int} (h0 : -9223372036854775808 ≤ n) (h1 : n ≤ 9223372036854775807) : ACalls Tryd.prog F_lateenref01_Put [.int .i64 n] h (fun v h' => v = .string (putF n) ∧ Old h h') := by
  refine lateenref01_Put_of ?_
  unfold lateenref01_Put
  refine (psize_calls h0 h1).mono ?_
  rintro v h2 ⟨rfl, rfl⟩
  refine ⟨_, rfl, ?_⟩
  have hlt : n.natAbs < 10 ^ 20 := by omega
  refine loop_intro (fun f (q : Sl × Int) h' => ∃ (m : Nat) (acc : List UInt8), q.2 = m ∧ m < 10 ^ f ∧ 0 < f ∧ acc.length + f = 20 ∧ digs f m acc = digs 20 n.natAbs [] ∧ Fw.Sep h2 h' [ownSl si_Luint8 eU8 q.1 acc]) 20
    ⟨n.natAbs, [], rfl, hlt, by omega, rfl, rfl, (Sep.start h2).nil rfl⟩ ?_
  rintro f _ ⟨b, q⟩ h3 ⟨m, acc, hq, hm, hf, hacc, hd, S⟩
  simp only at hq S ⊢
  subst hq
  refine ⟨by decide, ?_⟩
  refine ar_any ?_
  rw [digit_val]
  obtain ⟨f, rfl⟩ : ∃ g, f = g + 1 := ⟨f - 1, by omega⟩
  refine bld_one (si := si_Luint8) (E := eU8) (x := UInt8.ofNat (48 + m % 10)) (S.nil rfl) (fun h => ⟨rfl, rfl⟩) rfl (by decide) fun s h4 S4 => ?_
  refine app_copy S4 flat_u8 (S4.drop.rd) (by simp only [si_Luint8, List.length_singleton]; omega) (by simp only [List.length_singleton]; omega) fun s1 h5 S5 => ?_
  refine ⟨by decide, ?_⟩
  have ed : IntKind.u64.wrap (Int.tdiv (m : Int) 10) = ((m / 10 : Nat) : Int) := by
    rw [Int.tdiv_eq_ediv_of_nonneg (by omega)]
    have : m < 10 ^ 20 := Nat.lt_of_lt_of_le hm (Nat.pow_le_pow_right (by omega) (by omega))
    rw [wrap_u64 (by omega) (by omega)]
    omega
  rw [ed]
  have hl5 := (digs_len 20 n.natAbs [])
  refine ifB_intro (fun hc => ?_) (fun hc => ?_)
  · have hc : m / 10 = 0 := by
      have := eq_of_beq hc
      omega
    have hres : digs 20 n.natAbs [] = UInt8.ofNat (48 + m % 10) :: acc := by
      rw [← hd]
      unfold digs
      rw [if_pos hc]
    refine ifB_intro (fun hn => ?_) (fun hn => ?_)
    · have hn := of_decide_eq_true hn
      refine rd_bytes (l := UInt8.ofNat (48 + m % 10) :: acc) S5.rd ⟨?_, ?_, S5.old⟩
      · have : (⟨(UInt8.ofNat (48 + m % 10) :: acc).toArray⟩ : ByteArray).size = acc.length + 1 := by
          show (UInt8.ofNat (48 + m % 10) :: acc).toArray.size = _
          simp
        rw [this]
        have : ((⟨#[45]⟩ : ByteArray)).size = 1 := rfl
        rw [this]
        have : IntKind.i64.max = 9223372036854775807 := by decide
        rw [this]
        omega
      · unfold putF
        rw [if_pos hn, hres]
    · have hn := of_decide_eq_false hn
      refine rd_bytes (l := UInt8.ofNat (48 + m % 10) :: acc) S5.rd ⟨?_, S5.old⟩
      unfold putF
      rw [if_neg hn, hres]
  · have hc : m / 10 ≠ 0 := by
      intro e
      rw [e] at hc
      simp at hc
    have hm10 : m / 10 < 10 ^ f := by
      rw [Nat.div_lt_iff_lt_mul (by omega), ← Nat.pow_succ]
      exact hm
    refine ⟨f, by omega, m / 10, UInt8.ofNat (48 + m % 10) :: acc, rfl, hm10, ?_, by simp only [List.length_cons]; omega, ?_, ?_⟩
    · rcases Nat.eq_zero_or_pos f with rfl | h
      · simp at hm10; omega
      · exact h
    · rw [← hd]
      conv => rhs; unfold digs
      rw [if_neg hc]
    · exact S5.swap.drop

/-! Names -/
theorem okC_iff {i : Nat} {b : UInt8} : okC i b = true ↔ (48 ≤ b.toNat ∧ b.toNat ≤ 57 ∧ 0 < i) ∨ b.toNat = 95 ∨ (65 ≤ b.toNat ∧ b.toNat ≤ 90) ∨ (97 ≤ b.toNat ∧ b.toNat ≤ 122) := by
  unfold okC
  simp only [Bool.or_eq_true, Bool.and_eq_true, decide_eq_true_eq, beq_iff_eq]
  constructor
  · rintro (((⟨⟨h1, h2⟩, h3⟩ | h) | h) | h)
    · exact .inl ⟨h1, h2, h3⟩
    · exact .inr (.inl h)
    · exact .inr (.inr (.inl h))
    · exact .inr (.inr (.inr h))
  · rintro (⟨h1, h2, h3⟩ | h | h | h)
    · exact .inl (.inl (.inl ⟨⟨h1, h2⟩, h3⟩))
    · exact .inl (.inl (.inr h))
    · exact .inl (.inr h)
    · exact .inr h
theorem leafB {t : Bool} {i : Nat} {b : UInt8} (h : t = true ↔ ¬ ((48 ≤ b.toNat ∧ b.toNat ≤ 57 ∧ 0 < i) ∨ b.toNat = 95 ∨ (65 ≤ b.toNat ∧ b.toNat ≤ 90) ∨ (97 ≤ b.toNat ∧ b.toNat ≤ 122))) : t = !okC i b := by
  rw [← okC_iff] at h
  cases t <;> cases hb : okC i b <;> simp_all
theorem name_calls {h : Heap} {s : ByteArray} (hs : s.size ≤ 140737488355328) : ACalls Tryd.prog F_lateenref03_Name [.string s] h (fun v h' => v = .bool (nameB s) ∧ h' = h) := by
  refine lateenref03_Name_of ?_
  unfold lateenref03_Name
  refine loop_intro (fun m (q : Int) h' => ∃ j : Nat, q = j ∧ j ≤ s.size ∧ m = s.size - j ∧ h' = h ∧ okTo s j = true) s.size ⟨0, rfl, by omega, by omega, rfl, rfl⟩ ?_
  rintro _ _ _ h1 ⟨j, rfl, hj, rfl, rfl, hok⟩
  refine ifB_intro (fun hc => ?_) (fun hc => ?_)
  · have hjl : j < s.size := by simpa using hc
    have hjl' : j < (byL s).length := by rw [byL_len]; exact hjl
    refine ⟨by omega, (byL s)[j], by rw [Int.toNat_natCast]; exact List.getElem?_eq_getElem hjl', ?_⟩
    have hgd : (byL s).getD j 0 = (byL s)[j] := by rw [List.getD_eq_getElem?_getD, List.getElem?_eq_getElem hjl']; rfl
    generalize hb : (byL s)[j] = b at *
    intro k hk
    have key : ∀ number : Bool, (number = true ↔ 48 ≤ b.toNat ∧ b.toNat ≤ 57) → k number h1 := fun number hn => hk _ _ fun _ => by
      intro k1 hk1
      have fin : ∀ t : Bool, t = (!okC j b) → k1 t h1 := fun t ht => hk1 _ _ fun _ => by
        subst ht
        refine ifB_intro (fun hf => ?_) (fun hf => ?_)
        · refine ⟨?_, rfl⟩
          have hf : okC j b = false := by simpa using hf
          have : okTo s (j + 1) = false := by rw [okTo_succ, hgd, hf, Bool.and_false]
          unfold nameB
          rw [okTo_false this (by omega)]
          rfl
        · have hf : okC j b = true := by simpa using hf
          refine ar_i64 (by omega) (by omega) ⟨s.size - (j + 1), by omega, j + 1, rfl, by omega, rfl, rfl, ?_⟩
          rw [okTo_succ, hgd, hok, hf]
          rfl
      have rest : (number = true → ¬ 0 < j) → ifB ((b.toNat : Int) != 95)
           (ifB (decide ((b.toNat : Int) < 65))
              (ifB (decide ((b.toNat : Int) < 97))
                    (k1 true h1)
                    (k1 (decide ((b.toNat : Int) > 122)) h1))
              (ifB (decide ((b.toNat : Int) > 90))
                 (ifB (decide ((b.toNat : Int) < 97))
                    (k1 true h1)
                    (k1 (decide ((b.toNat : Int) > 122)) h1))
                 (k1 false h1)))
           (k1 false h1) := fun hnum => by
        have hn2 : ¬ (48 ≤ b.toNat ∧ b.toNat ≤ 57 ∧ 0 < j) := fun ⟨a1, a2, a3⟩ => hnum (hn.2 ⟨a1, a2⟩) a3
        refine ifB_intro (fun h95 => ?_) (fun h95 => fin _ (leafB (by simp at h95; simp; omega)))
        simp only [bne_iff_ne, ne_eq] at h95
        refine ifB_intro (fun h65 => ?_) (fun h65 => ?_)
        · have h65 := of_decide_eq_true h65
          refine ifB_intro (fun h97 => ?_) (fun h97 => ?_)
          · have h97 := of_decide_eq_true h97
            exact fin _ (leafB (by simp; omega))
          · have h97 := of_decide_eq_false h97
            exact fin _ (leafB (by rw [decide_eq_true_eq]; omega))
        · have h65 := of_decide_eq_false h65
          refine ifB_intro (fun h90 => ?_) (fun h90 => ?_)
          · have h90 := of_decide_eq_true h90
            refine ifB_intro (fun h97 => ?_) (fun h97 => ?_)
            · have h97 := of_decide_eq_true h97
              exact fin _ (leafB (by simp; omega))
            · have h97 := of_decide_eq_false h97
              exact fin _ (leafB (by rw [decide_eq_true_eq]; omega))
          · have h90 := of_decide_eq_false h90
            exact fin _ (leafB (by simp; omega))
      refine ifB_intro (fun ht => ?_) (fun ht => rest fun h => by rw [ht] at h; cases h)
      refine ifB_intro (fun h0 => ?_) (fun h0 => ?_)
      · exact rest fun _ => by simpa using h0
      · have h0 : 0 < j := by simpa using h0
        have := hn.1 ht
        exact fin _ (leafB (by simp; omega))
    refine ifB_intro (fun h48 => ?_) (fun h48 => ?_)
    · have h48 := of_decide_eq_true h48
      exact key _ (by rw [decide_eq_true_eq]; omega)
    · have h48 := of_decide_eq_false h48
      exact key _ (by simp; omega)
  · have hjl : j = s.size := by have : s.size ≤ j := by simpa using hc
                                omega
    subst hjl
    intro k hk
    have fin : ∀ t : Bool, t = (decide (1 ≤ s.size) && decide (s.size ≤ 16) && decide (s ≠ nullS) && decide (s ≠ intS) && decide (s ≠ floatS)) → k t h1 := fun t ht => hk _ _ fun _ => by
      refine ⟨?_, rfl⟩
      unfold nameB
      rw [hok, Bool.true_and, ht]
    have neq : ∀ z : ByteArray, (!(s.toList == z.toList)) = decide (s ≠ z) := fun z => by rw [toList_beq]; by_cases e : s = z <;> simp [e]
    refine ifB_intro (fun h1' => ?_) (fun h1' => fin _ ?_)
    · have h1' := of_decide_eq_true h1'
      have e1 : decide (1 ≤ s.size) = true := decide_eq_true (by omega)
      refine ifB_intro (fun h16 => ?_) (fun h16 => fin _ ?_)
      · have h16 := of_decide_eq_true h16
        have e2 : decide (s.size ≤ 16) = true := decide_eq_true (by omega)
        rw [neq, neq, neq]
        refine ifB_intro (fun h2 => ?_) (fun h2 => fin _ ?_)
        · have h2 : decide (s ≠ nullS) = true := h2
          refine ifB_intro (fun h3 => fin _ ?_) (fun h3 => fin _ ?_)
          · have h3 : decide (s ≠ intS) = true := h3
            rw [e1, e2, h2, h3]
            rfl
          · have h3 : decide (s ≠ intS) = false := h3
            rw [h3]
            simp
        · have h2 : decide (s ≠ nullS) = false := h2
          rw [h2]
          simp
      · have h16 := of_decide_eq_false h16
        have e2 : decide (s.size ≤ 16) = false := decide_eq_false (by omega)
        rw [e2]
        simp
    · have h1' := of_decide_eq_false h1'
      have e1 : decide (1 ≤ s.size) = false := decide_eq_false (by omega)
      rw [e1]
      simp

/-! Floats -/
theorem plain_calls {h : Heap} {n : Int} : ACalls Tryd.prog F_lateenref02_Plain [.int .i64 n] h (fun v h' => v = .int .i64 (plainF n) ∧ h' = h) := by
  refine lateenref02_Plain_of ?_
  unfold lateenref02_Plain
  refine ACalls.mono (R := fun v h' => v = .bool (isNan n) ∧ h' = h) ?_ ?_
  · refine lateenref02_IsNan_of ?_
    unfold lateenref02_IsNan
    refine ⟨by decide, ?_, rfl⟩
    unfold isNan
    congr 1
    have h0 : 0 ≤ IntKind.u64.wrap n := by
      simp only [IntKind.wrap, IntKind.bits, IntKind.signed, Bool.false_and, Bool.false_eq_true, if_false]
      omega
    rw [Int.tmod_eq_emod_of_nonneg h0]
  · rintro v h1 ⟨rfl, rfl⟩
    refine ⟨_, rfl, ifB_intro (fun hn => ?_) (fun hn => ?_)⟩
    · exact ⟨by unfold plainF; rw [if_pos hn]; rfl, rfl⟩
    · exact ⟨by unfold plainF; rw [if_neg (by simpa using hn)], rfl⟩
theorem wrap_u64_lt (n : Int) : 0 ≤ IntKind.u64.wrap n ∧ IntKind.u64.wrap n < 18446744073709551616 := by
  simp only [IntKind.wrap, IntKind.bits, IntKind.signed, Bool.false_and, Bool.false_eq_true, if_false]
  omega
theorem hexD_val {d : Nat} (hd : d < 16) : ((hexD d).toNat : Int) = if d < 10 then (d : Int) + 48 else (d : Int) + 87 := by
  unfold hexD
  rw [UInt8.toNat_ofNat']
  split <;> omega
theorem hput_calls {h : Heap} {n : Int} : ACalls Tryd.prog F_lateenref02_Put [.int .i64 n] h (fun v h' => v = .string (hexF n) ∧ Old h h') := by
  refine lateenref02_Put_of ?_
  unfold lateenref02_Put
  refine plain_calls.mono ?_
  rintro v h1 ⟨rfl, rfl⟩
  refine ⟨_, rfl, ?_⟩
  obtain ⟨w0, w1⟩ := wrap_u64_lt (plainF n)
  refine loop_intro (fun f (q : Int × Sl × Int) h' => ∃ (m i : Nat) (acc : List UInt8), q.1 = m ∧ q.2.2 = i ∧ i + f = 16 ∧ acc.length = i ∧ (m : Int) < 18446744073709551616 ∧ hexs f m acc = hexs 16 (IntKind.u64.wrap (plainF n)).toNat [] ∧ Fw.Sep h1 h' [ownSl si_Luint8 eU8 q.2.1 acc]) 16
    ⟨(IntKind.u64.wrap (plainF n)).toNat, 0, [], by simp only; omega, rfl, rfl, rfl, by omega, rfl, (Sep.start h1).nil rfl⟩ ?_
  rintro f _ ⟨u, b, i⟩ h2 ⟨m, i, acc, hu, hi, hf, hacc, hm, hd, S⟩
  simp only at hu hi S ⊢
  subst hu hi
  refine ifB_intro (fun hc => ?_) (fun hc => ?_)
  · have hi16 : i < 16 := by have := of_decide_eq_true hc; omega
    obtain ⟨f, rfl⟩ : ∃ g, f = g + 1 := ⟨f - 1, by omega⟩
    refine ⟨by decide, ?_⟩
    have em : Int.tmod (m : Int) 16 = ((m % 16 : Nat) : Int) := by rw [Int.tmod_eq_emod_of_nonneg (by omega)]; omega
    have hlt : m % 16 < 16 := Nat.mod_lt _ (by omega)
    rw [em, wrap_b8 (by omega) (by omega)]
    intro k hk
    have key : ∀ d : Int, d = ((hexD (m % 16)).toNat : Int) → k d h2 := fun d hd' => hk _ _ fun _ => by
      subst hd'
      refine bld_one (si := si_Luint8) (E := eU8) (x := hexD (m % 16)) (S.nil rfl) (fun h => ⟨rfl, rfl⟩) rfl (by decide) fun s h4 S4 => ?_
      refine app_copy S4 flat_u8 (S4.drop.rd) (by simp only [si_Luint8, List.length_singleton]; omega) (by simp only [List.length_singleton]; omega) fun s1 h5 S5 => ?_
      refine ⟨by decide, ?_⟩
      have ed : IntKind.u64.wrap (Int.tdiv (m : Int) 16) = ((m / 16 : Nat) : Int) := by
        rw [Int.tdiv_eq_ediv_of_nonneg (by omega), wrap_u64 (by omega) (by omega)]
        omega
      rw [ed]
      refine ar_i64 (by omega) (by omega) ⟨f, by omega, m / 16, i + 1, hexD (m % 16) :: acc, rfl, rfl, by omega, by simp [hacc], by omega, ?_, S5.swap.drop⟩
      rw [← hd]
      rfl
    have hv := hexD_val hlt
    refine ifB_intro (fun h10 => ?_) (fun h10 => ?_)
    · have h10 := of_decide_eq_true h10
      refine ar_any (key _ ?_)
      rw [wrap_b8 (by omega) (by omega), hv, if_pos (by omega)]
    · have h10 := of_decide_eq_false h10
      refine ar_any (key _ ?_)
      rw [wrap_b8 (by omega) (by omega), hv, if_neg (by omega)]
  · have hi16 : f = 0 := by have := of_decide_eq_false hc; omega
    subst hi16
    have hd : acc = hexs 16 (IntKind.u64.wrap (plainF n)).toNat [] := hd
    refine rd_bytes (l := acc) S.rd ⟨?_, ?_, S.old⟩
    · have : (⟨acc.toArray⟩ : ByteArray).size = acc.length := by show acc.toArray.size = _; simp
      rw [this]
      have : ((⟨#[48, 102]⟩ : ByteArray)).size = 2 := rfl
      rw [this]
      have : IntKind.i64.max = 9223372036854775807 := by decide
      rw [this]
      omega
    · unfold hexF
      rw [← hd]
      rfl
end Go.Proofs.YtojdbliehgejbaaDoor

/-
  lateenref03: arguments' words; lateenref06: lines.
-/
namespace Go.Proofs.YtojdbliehgejbaaDoor
open Go.Fw Go.Pl.Api Go.Pl.Put Go.Pl.Lines

theorem aright_calls {h : Heap} {cs : Array Value} {a : MArg} (ha : rArg.rv h cs.toList a) (hb : bArg a) : ACalls Tryd.prog F_lateenref03_Right [.agg cs] h (fun v h' => v = .bool (rightA a) ∧ Old h h') := by
  refine lateenref03_Right_of ?_
  unfold lateenref03_Right
  refine new_rv ha fun p h1 o1 hp => ?_
  have e1 := hExt.refl h1
  obtain ⟨_, hbs, _⟩ := hb
  refine ld_int (fld_argK.rd hp) e1 ?_
  refine ifB_intro (fun hk => ?_) (fun hk => ?_)
  · have hk : a.kind = 1 := by simpa using hk
    have er : rightA a = (nameB a.s && decide (a.n = 0)) := by unfold rightA; rw [if_pos hk]
    intro k hk2
    have fin : ∀ t h', Old h1 h' → t = rightA a → k t h' := fun t h' o e => hk2 _ _ fun _ => ⟨by rw [e], o1.trans o⟩
    refine ld_str (fld_argS.rd hp) e1 ?_
    refine (name_calls hbs).mono ?_
    rintro v h2 ⟨rfl, rfl⟩
    refine ⟨_, rfl, ifB_intro (fun hn => ?_) (fun hn => fin _ _ (.refl _) (by rw [er, hn]; rfl))⟩
    refine ld_int (fld_argN.rd hp) e1 (fin _ _ (.refl _) ?_)
    rw [er, hn]
    by_cases e : a.n = 0 <;> simp [e]
  · have hk1 : a.kind ≠ 1 := by simpa using hk
    intro k hk2
    have out : ∀ t : Bool, (t = true ↔ (a.kind < 1 ∨ 5 < a.kind ∨ a.s ≠ eB)) → k t h1 := fun t ht => hk2 _ _ fun _ => by
      refine ifB_intro (fun e => ?_) (fun e => ?_)
      · refine ⟨?_, o1⟩
        unfold rightA
        rw [if_neg hk1, if_pos (ht.1 e)]
      · have hn : ¬ (a.kind < 1 ∨ 5 < a.kind ∨ a.s ≠ eB) := fun h => by rw [ht.2 h] at e; cases e
        have er : rightA a = (decide (a.kind = 2) || (decide (a.kind = 3) && decide (plainF a.n = a.n)) || (decide (a.kind = 4) && decide (a.n = 0)) || (decide (a.kind = 5) && decide (0 ≤ a.n) && decide (a.n ≤ 999))) := by
          unfold rightA
          rw [if_neg hk1, if_neg hn]
        intro k2 hk3
        have fin : ∀ t h', Old h1 h' → t = rightA a → k2 t h' := fun t h' o e => hk3 _ _ fun _ => ⟨by rw [e], o1.trans o⟩
        have five : ∀ h', Old h1 h' → a.kind = 5 → (ld (.int .i64) h1 (p.add 2) fun (x_10 : Int) => ifB (decide (x_10 ≥ 0)) (ld (.int .i64) h1 (p.add 2) fun (x_11 : Int) => k2 (decide (x_11 ≤ 999)) h') (k2 false h')) := fun h' o h5 => by
          refine ld_int (fld_argN.rd hp) e1 (ifB_intro (fun h0 => ?_) (fun h0 => fin _ _ o ?_))
          · have h0 := of_decide_eq_true h0
            refine ld_int (fld_argN.rd hp) e1 (fin _ _ o ?_)
            rw [er]
            have : decide (0 ≤ a.n) = true := decide_eq_true h0
            simp [h5, this]
          · have h0 := of_decide_eq_false h0
            rw [er]
            have : decide (0 ≤ a.n) = false := decide_eq_false h0
            simp [h5, this]
        refine ld_int (fld_argK.rd hp) e1 ?_
        refine ifB_intro (fun h2 => fin _ _ (.refl _) (by have h2 : a.kind = 2 := by simpa using h2
                                                          rw [er]; simp [h2])) (fun h2 => ?_)
        have h2 : a.kind ≠ 2 := by simpa using h2
        refine ld_int (fld_argK.rd hp) e1 ?_
        refine ifB_intro (fun h3 => ?_) (fun h3 => ?_)
        · have h3 : a.kind = 3 := by simpa using h3
          refine ld_int (fld_argN.rd hp) e1 ?_
          refine plain_calls.mono ?_
          rintro v h2 ⟨rfl, rfl⟩
          refine ⟨_, rfl, e1, ?_⟩
          refine ld_int (fld_argN.rd hp) e1 ?_
          refine ifB_intro (fun hp' => fin _ _ (.refl _) ?_) (fun hp' => ?_)
          · have hp' : plainF a.n = a.n := by simpa using hp'
            rw [er]; simp [h3, hp']
          · have hp' : plainF a.n ≠ a.n := by simpa using hp'
            refine ld_int (fld_argK.rd hp) e1 (ifB_false (by simp [h3]) ?_)
            refine ld_int (fld_argK.rd hp) e1 (ifB_false (by simp [h3]) (fin _ _ (.refl _) ?_))
            rw [er]; simp [h3, hp']
        · have h3 : a.kind ≠ 3 := by simpa using h3
          refine ld_int (fld_argK.rd hp) e1 ?_
          refine ifB_intro (fun h4 => ?_) (fun h4 => ?_)
          · have h4 : a.kind = 4 := by simpa using h4
            refine ld_int (fld_argN.rd hp) e1 (ifB_intro (fun h0 => fin _ _ (.refl _) ?_) (fun h0 => ?_))
            · have h0 : a.n = 0 := by simpa using h0
              rw [er]; simp [h4, h0]
            · have h0 : a.n ≠ 0 := by simpa using h0
              refine ld_int (fld_argK.rd hp) e1 (ifB_false (by simp [h4]) (fin _ _ (.refl _) ?_))
              rw [er]; simp [h4, h0]
          · have h4 : a.kind ≠ 4 := by simpa using h4
            refine ld_int (fld_argK.rd hp) e1 ?_
            refine ifB_intro (fun h5 => ?_) (fun h5 => fin _ _ (.refl _) ?_)
            · exact five h1 (.refl _) (by simpa using h5)
            · have h5 : a.kind ≠ 5 := by simpa using h5
              rw [er]; simp [h2, h3, h4, h5]
    refine ld_int (fld_argK.rd hp) e1 ?_
    refine ifB_intro (fun h => out _ ?_) (fun h => ?_)
    · have := of_decide_eq_true h
      simp [this]
    · have h := of_decide_eq_false h
      refine ld_int (fld_argK.rd hp) e1 ?_
      refine ifB_intro (fun h5 => out _ ?_) (fun h5 => ?_)
      · have h5 : a.kind > 5 := of_decide_eq_true h5
        simp [h5]
      · have h5 := of_decide_eq_false h5
        refine ld_str (fld_argS.rd hp) e1 (out _ ?_)
        rw [toList_beq]
        have h5 : ¬ 5 < a.kind := h5
        simp [h, h5, eB]

theorem aput_calls {h : Heap} {cs : Array Value} {a : MArg} (ha : rArg.rv h cs.toList a) (hb : bArg a) : ACalls Tryd.prog F_lateenref03_Put [.agg cs] h (fun v h' => v = .string (argW a) ∧ Old h h') := by
  refine lateenref03_Put_of ?_
  unfold lateenref03_Put
  refine new_rv ha fun p h1 o1 hp => ?_
  have e1 := hExt.refl h1
  refine ld_agg hp e1 rfl fun c1 hc1 => ?_
  refine (aright_calls hc1 hb).mono ?_
  rintro v h2 ⟨rfl, o2⟩
  have e2 := o2.ext
  obtain ⟨_, _, ⟨hn0, hn1⟩, _⟩ := hb
  refine ⟨_, rfl, ifB_intro (fun hr => ?_) (fun hr => ?_)⟩
  · have hr : rightA a = false := by simpa using hr
    exact ⟨by unfold argW; rw [hr]; rfl, o1.trans o2⟩
  have hr : rightA a = true := by simpa using hr
  have er : argW a = if a.kind = 1 then a.s else if a.kind = 2 then putF a.n else if a.kind = 3 then hexF a.n else if a.kind = 4 then nullS else hashS ++ putF a.n := by
    unfold argW; rw [if_pos hr]
  have o12 := o1.trans o2
  refine ld_int (fld_argK.rd hp) e2 ?_
  refine ifB_intro (fun hk => ?_) (fun hk => ?_)
  · have hk : a.kind = 1 := by simpa using hk
    exact ld_str (fld_argS.rd hp) e2 ⟨by rw [er, if_pos hk], o12⟩
  have hk1 : a.kind ≠ 1 := by simpa using hk
  refine ld_int (fld_argK.rd hp) e2 ?_
  refine ifB_intro (fun hk => ?_) (fun hk => ?_)
  · have hk : a.kind = 2 := by simpa using hk
    refine ld_int (fld_argN.rd hp) e2 ?_
    refine (iput_calls hn0 hn1).mono ?_
    rintro v h3 ⟨rfl, o3⟩
    exact ⟨_, rfl, by rw [er, if_neg hk1, if_pos hk], o12.trans o3⟩
  have hk2 : a.kind ≠ 2 := by simpa using hk
  refine ld_int (fld_argK.rd hp) e2 ?_
  refine ifB_intro (fun hk => ?_) (fun hk => ?_)
  · have hk : a.kind = 3 := by simpa using hk
    refine ld_int (fld_argN.rd hp) e2 ?_
    refine hput_calls.mono ?_
    rintro v h3 ⟨rfl, o3⟩
    exact ⟨_, rfl, by rw [er, if_neg hk1, if_neg hk2, if_pos hk], o12.trans o3⟩
  have hk3 : a.kind ≠ 3 := by simpa using hk
  refine ld_int (fld_argK.rd hp) e2 ?_
  refine ifB_intro (fun hk => ?_) (fun hk => ?_)
  · have hk : a.kind = 4 := by simpa using hk
    exact ⟨by rw [er, if_neg hk1, if_neg hk2, if_neg hk3, if_pos hk]; rfl, o12⟩
  have hk4 : a.kind ≠ 4 := by simpa using hk
  refine ld_int (fld_argN.rd hp) e2 ?_
  refine (iput_calls hn0 hn1).mono ?_
  rintro v h3 ⟨rfl, o3⟩
  refine ⟨_, rfl, ?_, by rw [er, if_neg hk1, if_neg hk2, if_neg hk3, if_neg hk4]; rfl, o12.trans o3⟩
  have := put_size a.n
  have : ((⟨#[35]⟩ : ByteArray)).size = 1 := rfl
  rw [this]
  have : IntKind.i64.max = 9223372036854775807 := by decide
  rw [this]
  omega

/-! Lines -/
theorem bld_strs {h0 h : Heap} {L : List As} {n : Nat} {parts : List (Nat × Value)} {ws : List ByteArray} {K : Sl → Heap → Prop} (S : Fw.Sep h0 h L)
    (hp : Instr.fill (fun i => some (i * si_Lstring.size, si_Lstring.size)) (madeCells si_Lstring.zero.cells (n * si_Lstring.size)) parts = some (ws.map Value.string).toArray) (hn : ws.length = n) (h16 : n ≤ 1000)
    (hK : ∀ s h', Fw.Sep h0 h' (ownSl si_Lstring eStr s ws :: L) → K s h') : bld si_Lstring n parts h K :=
  bld_rule (E := eStr) (us := ws.map Value.string) (l := ws) (S.free (A := ownRow eStr (ws.map Value.string) ws) loc_ownRow (Row.of_cells ws)) hp hn rfl (by simp only [si_Lstring]; omega) (by omega) hK
/-- A line behind what is there. -/
theorem lput_calls {h0 h : Heap} {L : List As} {out s : Sl} {l : List UInt8} {ws : List ByteArray} (S : Fw.Sep h0 h (ownSl si_Luint8 eB8 out l :: ownSl si_Lstring eStr s ws :: L)) (hb : l.length + wS ws ≤ 1000000000) :
    ACalls Tryd.prog F_lateenref06_put [out.v, s.v] h (fun v h' => ∃ o' : Sl, v = o'.v ∧ Fw.Sep h0 h' (ownSl si_Luint8 eB8 o' (l ++ lineF ws) :: L)) := by
  refine lateenref06_put_of ?_
  unfold lateenref06_put
  have hsl : s.len = ws.length := S.drop.rd.lenEq
  have hbnd := S.drop.rd.bound
  have hjl := joinTo_len ws
  refine loop_intro (fun m (q : Sl × Int) h' => ∃ i : Nat, q.2 = i ∧ i ≤ ws.length ∧ m = ws.length - i ∧ Fw.Sep h0 h' (ownSl si_Luint8 eB8 q.1 (l ++ joinTo ws i) :: ownSl si_Lstring eStr s ws :: L)) ws.length
    ⟨0, rfl, by omega, by omega, by simpa [joinTo] using S⟩ ?_
  clear S
  rintro _ _ ⟨out1, i⟩ h1 ⟨i, hi0, hi, rfl, S⟩
  simp only at hi0 S ⊢
  subst hi0
  have hji := hjl i hi
  have hw : wS (ws.take i) + wS (ws.drop i) = wS ws := by rw [← wS_app, List.take_append_drop]
  refine ifB_intro (fun hc => ?_) (fun hc => ?_)
  · have hil : i < ws.length := by rw [hsl] at hc; simpa using hc
    have hd : wS (ws.drop i) = ws[i].size + 1 + wS (ws.drop (i + 1)) := by rw [List.drop_eq_getElem_cons hil, wS_cons]
    have hgd : ws.getD i eB = ws[i] := by rw [List.getD_eq_getElem?_getD, List.getElem?_eq_getElem hil]; rfl
    intro k hk
    have rest : ∀ (o2 : Sl) (h2 : Heap), Fw.Sep h0 h2 (ownSl si_Luint8 eB8 o2 (l ++ joinTo ws i ++ (if 0 < i then [32] else [])) :: ownSl si_Lstring eStr s ws :: L) → k o2 h2 := fun o2 h2 S2 => hk _ _ fun _ => by
      have hone : (if 0 < i then [(32 : UInt8)] else []).length ≤ 1 := by split <;> simp
      refine idx_rdN S2.drop.rd rfl hil fun p _ hp => ld_one (k := .str) hp ?_
      refine apS_rule S2 rfl (by simp only [List.length_append, si_Luint8]; omega) (by simp only [List.length_append]; omega) fun s' h3 S3 => ?_
      refine ar_i64 (by omega) (by omega) ⟨ws.length - (i + 1), by omega, i + 1, rfl, by omega, rfl, ?_⟩
      rw [joinTo_succ]
      unfold jb
      rw [hgd]
      simpa [byL] using S3
    refine ifB_intro (fun h0' => ?_) (fun h0' => ?_)
    · have h0' : 0 < i := by have := of_decide_eq_true h0'; omega
      refine app1_flat (E := eB8) (v := .int .u8 32) (x := 32) S (fun _ => ⟨rfl, rfl⟩) rfl (by decide) (by simp only [List.length_append, si_Luint8]; omega) (by simp only [List.length_append]; omega) fun s' h3 S3 => ?_
      exact rest _ _ (by rw [if_pos h0']; exact S3)
    · have h0' : ¬ 0 < i := by have := of_decide_eq_false h0'; omega
      exact rest _ _ (by rw [if_neg h0', List.append_nil]; exact S)
  · have hil : i = ws.length := by have : ws.length ≤ i := by rw [hsl] at hc; simpa using hc
                                   omega
    subst hil
    refine app1_flat (E := eB8) (v := .int .u8 10) (x := 10) S (fun _ => ⟨rfl, rfl⟩) rfl (by decide) (by simp only [List.length_append, si_Luint8]; omega) (by simp only [List.length_append]; omega) fun s' h3 S3 => ?_
    refine ⟨s', rfl, ?_⟩
    have S3 := S3.swap.drop
    rw [List.append_assoc] at S3
    exact S3

/-- Arguments' words behind what is there. -/
theorem largs_calls {h0 h : Heap} {L : List As} {w s : Sl} {ws : List ByteArray} {l : List MArg} (S : Fw.Sep h0 h (ownSl si_Lstring eStr w ws :: L)) (hs : rdSl rArg.el h0 s l) (hbl : Go.Fw.bL bArg l) (hb : ws.length + l.length ≤ 1000000000) :
    ACalls Tryd.prog F_lateenref06_args [w.v, s.v] h (fun v h' => ∃ o' : Sl, v = o'.v ∧ Fw.Sep h0 h' (ownSl si_Lstring eStr o' (ws ++ argsW l) :: L)) := by
  refine lateenref06_args_of ?_
  unfold lateenref06_args
  have hsl := hs.lenEq
  refine loop_intro (fun m (q : Sl × Int) h' => ∃ i : Nat, q.2 = i ∧ i ≤ l.length ∧ m = l.length - i ∧ Fw.Sep h0 h' (ownSl si_Lstring eStr q.1 (ws ++ argsW (l.take i)) :: L)) l.length
    ⟨0, rfl, by omega, by omega, by simpa [argsW] using S⟩ ?_
  clear S
  rintro _ _ ⟨w1, i⟩ h1 ⟨i, hi0, hi, rfl, S⟩
  simp only at hi0 S ⊢
  subst hi0
  refine ifB_intro (fun hc => ?_) (fun hc => ?_)
  · have hil : i < l.length := by rw [hsl] at hc; simpa using hc
    refine idx_rdN hs rfl hil fun p _ hp => ld_agg hp S.old.ext rfl fun cs hcs => ?_
    refine (aput_calls (rArg.ext hcs S.old.ext) (hbl.2 _ (List.getElem_mem hil))).mono ?_
    rintro v h2 ⟨rfl, o2⟩
    refine ⟨_, rfl, ?_⟩
    have hlen : (argsW (l.take i)).length = i := by simp [argsW]; omega
    refine app1_flat (E := eStr) (v := .string (argW l[i])) (x := argW l[i]) (S.grow o2) (fun _ => ⟨rfl, rfl⟩) rfl (by decide) (by simp only [List.length_append, si_Lstring]; omega) (by simp only [List.length_append]; omega) fun s' h3 S3 => ?_
    refine ar_i64 (by omega) (by omega) ⟨l.length - (i + 1), by omega, i + 1, rfl, by omega, rfl, ?_⟩
    have e : argsW (l.take (i + 1)) = argsW (l.take i) ++ [argW l[i]] := by rw [List.take_succ_eq_append_getElem hil]; unfold argsW; rw [List.map_append]; rfl
    rw [e, ← List.append_assoc]
    exact S3
  · have hil : l.length ≤ i := by rw [hsl] at hc; simpa using hc
    rw [List.take_of_length_le hil] at S
    exact ⟨w1, rfl, S⟩
end Go.Proofs.YtojdbliehgejbaaDoor

/-
  lateenref06: variables' lines; lateenref05.Of.
-/
namespace Go.Proofs.YtojdbliehgejbaaDoor
open Go.Fw Go.Pl.Api Go.Pl.Put Go.Pl.Lines

/-! Regions that lay strings, and a line -/
/-- Memory as it was, and a box of given cells. -/
def RX (hb : Heap) (p : Addr) (cs : Array Value) (h : Heap) : Prop := Old hb h ∧ p.spot = none ∧ ∀ j v, cs[j]? = some v → hcell h (p.add j) = some v
theorem ldF_rx {hb : Heap} {p : Addr} {cs : Array Value} {k : TK} {x : k.T} {o : Nat} {K : k.T → Prop} (hk : k.isAgg = false) (hx : cs[o]? = some (k.val x)) (hK : K x) : ldF k (RX hb p cs) (p.add o) K :=
  ⟨x, fun h r => by cases k <;> first | exact r.2.2 o _ hx | (cases hk), hK⟩
theorem ldF_base {k : TK} {hb : Heap} {p q : Addr} {cs : Array Value} {K : k.T → Prop} (h : ld k hb q K) : ldF k (RX hb p cs) q K := by
  obtain ⟨x, hx, hK⟩ := h
  exact ⟨x, fun h r => holds_ext r.1.ext hx, hK⟩
/-- What an operation lays, with what it keeps. -/
def spS (si : SlI) {α : Type} (E : Elem α) (l : List α) (rest : List As) : Fw.Spec := ⟨fun v => ownV si E l v :: rest, fun v => ∃ s : Sl, v = s.v⟩
def spV (u : Value) (rest : List As) : Fw.Spec := ⟨fun _ => rest, fun v => v = u⟩
theorem fS {α : Type} {si : SlI} {E : Elem α} {l : List α} {R : Heap → Prop} {h0 : Heap} {pre rest : List As} {run : Heap → (Value → Heap → Prop) → Prop} {K : Value → Prop}
    (hrun : ∀ h X, R h → Fw.Sep h0 h (pre ++ X) → run h fun v h' => ∃ s : Sl, v = s.v ∧ R h' ∧ Fw.Sep h0 h' (ownSl si E s l :: (rest ++ X))) (hm : ∀ {h K K'}, run h K → (∀ v h', K v h' → K' v h') → run h K')
    (hK : ∀ s : Sl, K s.v) : freeW R h0 (spS si E l rest) pre run K :=
  ⟨⟨(⟨none, 0, 0⟩ : Sl).v, _, rfl⟩, fun h X r S => hm (hrun h X r S) fun v h' ⟨s, e, r', S'⟩ => ⟨r', ⟨s, e⟩, by rw [e]; exact S'.toV⟩, fun v ⟨s, e⟩ => by rw [e]; exact hK s⟩
theorem fV {u : Value} {R : Heap → Prop} {h0 : Heap} {pre rest : List As} {run : Heap → (Value → Heap → Prop) → Prop} {K : Value → Prop}
    (hrun : ∀ h X, R h → Fw.Sep h0 h (pre ++ X) → run h fun v h' => v = u ∧ R h' ∧ Fw.Sep h0 h' (rest ++ X)) (hm : ∀ {h K K'}, run h K → (∀ v h', K v h' → K' v h') → run h K')
    (hK : K u) : freeW R h0 (spV u rest) pre run K :=
  ⟨⟨u, rfl⟩, fun h X r S => hm (hrun h X r S) fun v h' ⟨e, r', S'⟩ => ⟨r', e, S'⟩, fun v e => by rw [e]; exact hK⟩

/-! A call that lays a slice; strings built; a slice appended. -/
theorem fcall {α : Type} {si : SlI} {E : Elem α} {l : List α} {R : Heap → Prop} {h0 : Heap} {pre rest : List As} {f : FuncId} {args : List Value} {K : Value → Prop}
    (hc : ∀ h X, R h → Fw.Sep h0 h (pre ++ X) → ACalls Tryd.prog f args h (fun v h' => ∃ s : Sl, v = s.v ∧ R h' ∧ Fw.Sep h0 h' (ownSl si E s l :: (rest ++ X)))) (hK : ∀ s : Sl, K s.v) :
    freeW R h0 (spS si E l rest) pre (fun h Kv => ACalls Tryd.prog f args h fun v h' => as1 .sl v fun r => Kv r.v h') K :=
  ⟨⟨(⟨none, 0, 0⟩ : Sl).v, _, rfl⟩, fun h X r S => (hc h X r S).mono fun v h' ⟨s, e, r', S'⟩ => ⟨s, e, r', ⟨s, rfl⟩, S'.toV⟩, fun v ⟨s, e⟩ => by rw [e]; exact hK s⟩
theorem fcallV {u : ByteArray} {R : Heap → Prop} {h0 : Heap} {pre : List As} {f : FuncId} {args : List Value} {K : Value → Prop} (hR : ∀ h h', R h → Old h h' → R h')
    (hc : ∀ h, R h → ACalls Tryd.prog f args h (fun v h' => v = .string u ∧ Old h h')) (hK : K (.string u)) :
    freeW R h0 (spV (.string u) pre) pre (fun h Kv => ACalls Tryd.prog f args h fun v h' => as1 .str v fun r => Kv (.string r) h') K :=
  ⟨⟨_, rfl⟩, fun h X r S => (hc h r).mono fun v h' ⟨e, o⟩ => ⟨u, e, hR _ _ r o, rfl, S.grow o⟩, fun v e => by rw [e]; exact hK⟩
theorem RX.old {hb : Heap} {p : Addr} {cs : Array Value} {h h' : Heap} (r : RX hb p cs h) (o : Old h h') : RX hb p cs h' := ⟨r.1.trans o, r.2.1, fun j v e => o.ext _ _ (r.2.2 j v e)⟩
theorem bld_oldS {e : SlI} {n : Nat} {parts : List (Nat × Value)} {h : Heap} {K : Sl → Heap → Prop} (H : bld e n parts h fun s h' => Old h h' → K s h') : bld e n parts h K := by
  obtain ⟨cs, h1, h2, h3⟩ := H
  exact ⟨cs, h1, h2, h3 (Old.push _ _)⟩
theorem fbld {n : Nat} {parts : List (Nat × Value)} {ws : List ByteArray} {R : Heap → Prop} {h0 : Heap} {pre : List As} {K : Value → Prop} (hR : ∀ h h', R h → Old h h' → R h')
    (hp : Instr.fill (fun i => some (i * si_Lstring.size, si_Lstring.size)) (madeCells si_Lstring.zero.cells (n * si_Lstring.size)) parts = some (ws.map Value.string).toArray) (hn : ws.length = n) (h16 : n ≤ 1000)
    (hK : ∀ s : Sl, K s.v) : freeW R h0 (spS si_Lstring eStr ws pre) pre (fun h Kv => bld si_Lstring n parts h fun s h' => Kv s.v h') K :=
  ⟨⟨(⟨none, 0, 0⟩ : Sl).v, _, rfl⟩, fun h X r S => bld_oldS (bld_strs S hp hn h16 fun s h' S' o => ⟨hR _ _ r o, ⟨s, rfl⟩, S'.toV⟩), fun v ⟨s, e⟩ => by rw [e]; exact hK s⟩

theorem sumTake {α : Type} (f : α → Nat) {l : List α} {j : Nat} (h : j < l.length) : ((l.take (j + 1)).map f).sum = ((l.take j).map f).sum + f l[j] := by
  rw [List.take_succ_eq_append_getElem h, List.map_append, List.sum_append, List.map_cons, List.map_nil, List.sum_cons, List.sum_nil, Nat.add_zero]
theorem sumTake_le {α : Type} (f : α → Nat) (l : List α) (j : Nat) : ((l.take j).map f).sum ≤ (l.map f).sum := by
  conv => rhs; rw [← List.take_append_drop j l, List.map_append, List.sum_append]
  omega
theorem flat_take {α : Type} (f : α → List UInt8) {l : List α} {j : Nat} (h : j < l.length) : (l.take (j + 1)).flatMap f = (l.take j).flatMap f ++ f l[j] := by
  rw [List.take_succ_eq_append_getElem h, List.flatMap_append, List.flatMap_singleton]
theorem flatN_len {α : Type} {f : α → List UInt8} {g : α → Nat} (h : ∀ x, (f x).length ≤ g x) (l : List α) : (l.flatMap f).length ≤ (l.map g).sum := by
  induction l with
  | nil => simp
  | cons x l ih =>
    rw [List.flatMap_cons, List.length_append, List.map_cons, List.sum_cons]
    have := h x
    omega
def lVar (first : ByteArray) (v : MVar) : Nat := first.size + v.name.size + v.type.size + 4
theorem varL_len (first : ByteArray) (v : MVar) : (varL first v).length ≤ lVar first v := by
  have := lineF_len [first, v.name, v.type]
  simp only [wS_cons, wS_nil] at this
  unfold varL lVar
  omega

theorem lvars_calls {h0 h : Heap} {L : List As} {out s : Sl} {first : ByteArray} {l0 : List UInt8} {l : List MVar} (S : Fw.Sep h0 h (ownSl si_Luint8 eB8 out l0 :: L)) (hs : rdSl rVar.el h0 s l) (hb : l0.length + (l.map (lVar first)).sum ≤ 1000000000) :
    ACalls Tryd.prog F_lateenref06_vars [out.v, .string first, s.v] h (fun v h' => ∃ o' : Sl, v = o'.v ∧ Fw.Sep h0 h' (ownSl si_Luint8 eB8 o' (l0 ++ varsL first l) :: L)) := by
  refine lateenref06_vars_of ?_
  unfold lateenref06_vars
  have hsl := hs.lenEq
  have hsb := hs.bound
  refine loop_intro (fun m (q : Sl × Int) h' => ∃ i : Nat, q.2 = i ∧ i ≤ l.length ∧ m = l.length - i ∧ Fw.Sep h0 h' (ownSl si_Luint8 eB8 q.1 (l0 ++ varsL first (l.take i)) :: L)) l.length
    ⟨0, rfl, by omega, by omega, by simpa [varsL] using S⟩ ?_
  clear S
  rintro _ _ ⟨out1, i⟩ h1 ⟨i, hi0, hi, rfl, S⟩
  simp only at hi0 S ⊢
  subst hi0
  refine ifB_intro (fun hc => ?_) (fun hc => ?_)
  · have hil : i < l.length := by rw [hsl] at hc; simpa using hc
    have hlen := flatN_len (varL_len first) (l.take i)
    have hst := sumTake (lVar first) hil
    have hle := sumTake_le (lVar first) l (i + 1)
    have hv : lVar first l[i] = first.size + l[i].name.size + l[i].type.size + 4 := rfl
    have hvl : (varsL first (l.take i)).length ≤ ((l.take i).map (lVar first)).sum := hlen
    refine ⟨Old h0, h0, _, fun n _ => if n = 12 then spS si_Lstring eStr [first, l[i].name, l[i].type] (ownSl si_Luint8 eB8 out1 (l0 ++ varsL first (l.take i)) :: L) else spS si_Luint8 eB8 (l0 ++ varsL first (l.take (i + 1))) L, S.old, S, ?_⟩
    refine idx_rdN hs rfl hil fun p _ hp => ldF_old (ld_str (fld_vName.rd hp) (hExt.refl _) ?_)
    refine idx_rdN hs rfl hil fun p1 _ hp1 => ldF_old (ld_str (fld_vType.rd hp1) (hExt.refl _) ?_)
    rw [List.append_nil]
    refine fbld (fun _ _ => Old.trans) (by kernel_rfl) rfl (by omega) fun s1 => ⟨s1, rfl, ?_⟩
    refine fcall (fun h2 X o S2 => ?_) fun s2 => ⟨s2, rfl, ?_⟩
    · have S2 : Fw.Sep h0 h2 (ownSl si_Lstring eStr s1 [first, l[i].name, l[i].type] :: ownSl si_Luint8 eB8 out1 (l0 ++ varsL first (l.take i)) :: (L ++ X)) := Sep.ofV (by simpa [spS] using S2)
      refine (lput_calls S2.swap (by simp only [wS_cons, wS_nil, List.length_append]; omega)).mono ?_
      rintro v h3 ⟨o', rfl, S3⟩
      refine ⟨o', rfl, S3.old, ?_⟩
      unfold varsL
      rw [flat_take _ hil, ← List.append_assoc]
      exact S3
    intro h7 _ S7
    have S7 : Fw.Sep h0 h7 (ownSl si_Luint8 eB8 s2 (l0 ++ varsL first (l.take (i + 1))) :: L) := Sep.ofV (by simpa [spS] using S7)
    exact ar_i64 (by omega) (by omega) ⟨l.length - (i + 1), by omega, i + 1, rfl, by omega, rfl, S7⟩
  · have hil : l.length ≤ i := by rw [hsl] at hc; simpa using hc
    rw [List.take_of_length_le hil] at S
    exact ⟨out1, rfl, S⟩
end Go.Proofs.YtojdbliehgejbaaDoor

/-
  lateenref05.Of.
-/
namespace Go.Proofs.YtojdbliehgejbaaDoor
open Go.Fw Go.Pl.Api Go.Pl.Put Go.Pl.Lines

/-- The words of the instructions, where they lie. -/
def WordsIn (h : Heap) : Prop := ∀ i, i < 35 → hcell h ⟨0, i, none⟩ = some (.string (opWords.getD i eB))
theorem WordsIn.old {h h' : Heap} (w : WordsIn h) (o : Old h h') : WordsIn h' := fun i hi => o.ext _ _ (w i hi)
def formC (w : ByteArray) (d n : Bool) (a b : Int) : Array Value := #[.string w, .bool d, .bool n, .int .i64 a, .int .i64 b]
theorem one_form {w : ByteArray} {d n : Bool} {a b : Int} : ∀ v ∈ (formC w d n a b).toList, v.oneCell' = true := by
  intro v hv
  simp [formC] at hv
  rcases hv with rfl | rfl | rfl | rfl | rfl <;> rfl
theorem bst_form {w : ByteArray} {d n : Bool} {K : Array Value → Prop} (h : K (formC w d n 0 0)) :
    bst [(0, 1), (1, 1), (2, 1), (3, 1), (4, 1)] #[.string ⟨#[]⟩, .bool false, .bool false, .int .i64 0, .int .i64 0] [(0, .string w), (1, .bool d), (2, .bool n)] K := ⟨_, by kernel_rfl, h⟩
/-- What is told behind a form that is filled. -/
theorem of_tail {h h4 : Heap} {p p2 : Addr} {w W : ByteArray} {d n D N : Bool} {a b : Int} (S : Fw.Sep h h4 [rawB p2 (formC w d n a b), rawB p (formC eB false false 0 0)]) (e : formC w d n a b = formC W D N a b) :
    ld (.agg 5) h4 p2 fun (x_2 : Array Value) => x_2.size = 5 ∧ st x_2.toList h4 p fun h_7 => ld (.agg 5) h_7 p fun (x_3 : Array Value) =>
      ∃ (a b : Int) (ok : Bool), Value.tuple #[.agg x_3, .bool true] = .tuple #[.agg (formC W D N a b), .bool ok] ∧ Old h h_7 := by
  refine ld_rawAgg S rfl ?_
  refine st_allB S.swap rfl rfl one_form fun h7 S7 => ?_
  exact ld_rawAgg S7 rfl ⟨a, b, true, by rw [e], S7.old⟩
set_option maxHeartbeats 4000000 in
theorem of_calls {h : Heap} {op : Int} (hW : WordsIn h) : ACalls Tryd.prog F_lateenref05_Of [.int .i64 op] h (fun v h' => ∃ (a b : Int) (ok : Bool), v = .tuple #[.agg (formC (opWord op) (opDst op) (opNamed op) a b), .bool ok] ∧ Old h h') := by
  refine lateenref05_Of_of ?_
  unfold lateenref05_Of
  refine new_rawB (Sep.start h) fun p h1 o1 S1 => ?_
  have S1 : Fw.Sep h h1 [rawB p (formC eB false false 0 0)] := S1
  have out : isOp op = false → bst [(0, 1), (1, 1), (2, 1), (3, 1), (4, 1)] #[.string ⟨#[]⟩, .bool false, .bool false, .int .i64 0, .int .i64 0] [] fun c =>
     c.size = 5 ∧ st c.toList h1 p fun h_3 =>
     ld (.agg 5) h_3 p fun (x : Array Value) => ∃ (a b : Int) (ok : Bool), Value.tuple #[.agg x, .bool false] = .tuple #[.agg (formC (opWord op) (opDst op) (opNamed op) a b), .bool ok] ∧ Old h h_3 := fun e => by
    refine ⟨formC eB false false 0 0, by kernel_rfl, ?_⟩
    refine st_allB S1 rfl rfl one_form fun h7 S7 => ?_
    refine ld_rawAgg S7 rfl ⟨0, 0, false, ?_, S7.old⟩
    unfold opWord opDst opNamed
    rw [e]
    rfl
  intro k hk
  by_cases hr : 1 ≤ op ∧ op ≤ 34
  case neg =>
    have e : isOp op = false := by
      unfold isOp
      by_cases h1 : 1 ≤ op
      · have : ¬ op ≤ 34 := fun h2 => hr ⟨h1, h2⟩
        simp [this]
      · simp [h1]
    by_cases h1' : op < 1
    · exact ifB_true (decide_eq_true h1') (hk _ _ fun _ => ifB_true rfl (out e))
    · exact ifB_false (decide_eq_false h1') (hk _ _ fun _ => ifB_true (decide_eq_true (by omega)) (out e))
  refine ifB_false (decide_eq_false (by omega)) (hk _ _ fun _ => ifB_false (decide_eq_false (by omega)) ?_)
  clear hk k out
  refine ⟨by omega, by omega, ?_⟩
  refine ld_one (k := .str) (x := opWord op) ?_ ?_
  · have := (hW.old o1) op.toNat (by omega)
    have e : opWord op = opWords.getD op.toNat eB := by
      unfold opWord isOp
      rw [decide_eq_true hr.1, decide_eq_true hr.2]
      rfl
    rw [e]
    have e2 : (⟨0, 0, none⟩ : Addr).add (op.toNat * 1) = ⟨0, op.toNat, none⟩ := by rw [Addr.add_none]; simp
    rw [e2]
    exact this
  generalize hw : opWord op = w
  have hcases : op = 1 ∨ op = 2 ∨ op = 3 ∨ op = 4 ∨ op = 5 ∨ op = 6 ∨ op = 7 ∨ op = 8 ∨ op = 9 ∨ op = 10 ∨ op = 11 ∨ op = 12 ∨ op = 13 ∨ op = 14 ∨ op = 15 ∨ op = 16 ∨ op = 17 ∨ op = 18 ∨ op = 19 ∨ op = 20 ∨ op = 21 ∨ op = 22 ∨ op = 23 ∨ op = 24 ∨ op = 25 ∨ op = 26 ∨ op = 27 ∨ op = 28 ∨ op = 29 ∨ op = 30 ∨ op = 31 ∨ op = 32 ∨ op = 33 ∨ op = 34 := by omega
  clear hr hW hw
  rcases hcases with rfl | rfl | rfl | rfl | rfl | rfl | rfl | rfl | rfl | rfl | rfl | rfl | rfl | rfl | rfl | rfl | rfl | rfl | rfl | rfl | rfl | rfl | rfl | rfl | rfl | rfl | rfl | rfl | rfl | rfl | rfl | rfl | rfl | rfl
  all_goals
    repeat (first | refine ifB_true rfl ?_ | refine ifB_false rfl ?_)
    refine bst_form ?_
    refine new_stR S1 rfl rfl one_form fun p2 h5 S5 => ?_
    intro k1 hk1
    have fin : ∀ a b h', Fw.Sep h h' [rawB p2 (formC w _ _ a b), rawB p (formC eB false false 0 0)] → k1 () h' := fun a b h' S => hk1 _ _ fun _ => of_tail S rfl
    intro k2 hk2
    repeat (first | refine ifB_true rfl ?_ | refine ifB_false rfl ?_)
    refine hk2 _ _ fun _ => ?_
    first
      | refine ifB_true rfl ?_
        exact st_rawB (i := 3) S5 (show 3 < 5 by decide) rfl fun h6 S6 => st_rawB (i := 4) S6 (show 4 < 5 by decide) rfl fun h7 S7 => fin _ _ _ S7
      | refine ifB_false rfl ?_
        intro k3 hk3
        repeat (first | refine ifB_true rfl ?_ | refine ifB_false rfl ?_)
        refine hk3 _ _ fun _ => ?_
        first
          | refine ifB_true rfl ?_
            exact st_rawB (i := 4) S5 (show 4 < 5 by decide) rfl fun h7 S7 => fin _ _ _ S7
          | refine ifB_false rfl ?_
            intro k4 hk4
            repeat (first | refine ifB_true rfl ?_ | refine ifB_false rfl ?_)
            refine hk4 _ _ fun _ => ?_
            first
              | refine ifB_true rfl ?_
                exact st_rawB (i := 4) S5 (show 4 < 5 by decide) rfl fun h7 S7 => fin _ _ _ S7
              | refine ifB_false rfl ?_
                exact st_rawB (i := 3) S5 (show 3 < 5 by decide) rfl fun h6 S6 => st_rawB (i := 4) S6 (show 4 < 5 by decide) rfl fun h7 S7 => fin _ _ _ S7
end Go.Proofs.YtojdbliehgejbaaDoor
