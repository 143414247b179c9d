/-
  Matter: the small functions.
-/
import Derived.Test.YtncbpalncgcoaaaFnBack
import Derived.Test.YtncbpalncgcoaaaFnReach
import Derived.Test.YtncbpalncgcoaaaFnAwake22
import Derived.Test.YtncbpalncgcoaaaFnFlow
import Derived.Test.YtncbpalncgcoaaaPlMat
import Derived.Test.YtncbpalncgcoaaaFwOwn
namespace Go.Proofs.Ytncbpalncgcoaaa
open Go.Fw Go.Fw.I Go.Pl.Api Go.Pl.Vst Go.Pl.Mat Go.Pl.Put

theorem rv_toA {h : Heap} (z : Int) : rArg.rv h [.int .i64 5, .string ⟨#[]⟩, .int .i64 z] (toA z) := rv_arg.2 rfl
theorem mto_calls {h : Heap} (z : Int) : ACalls Try.prog F_matter_to [.int .i64 z] h (fun v h' => v = .agg #[.int .i64 5, .string ⟨#[]⟩, .int .i64 z] ∧ Old h h') := by
  refine matter_to_of ?_
  unfold matter_to
  refine new_rawB (Sep.start h) fun p h1 o1 S1 => bst_ref ?_
  refine st_allB S1 rfl rfl (by intro v hv; simp at hv; rcases hv with rfl | rfl | rfl <;> rfl) fun h2 S2 => ?_
  exact ld_rawAgg S2 rfl ⟨rfl, S2.old⟩
theorem rto_calls {h : Heap} (z : Int) : ACalls Try.prog F_lateenref24_to [.int .i64 z] h (fun v h' => v = .agg #[.int .i64 5, .string ⟨#[]⟩, .int .i64 z] ∧ Old h h') := by
  refine lateenref24_to_of ?_
  unfold lateenref24_to
  refine new_rawB (Sep.start h) fun p h1 o1 S1 => bst_ref ?_
  refine st_allB S1 rfl rfl (by intro v hv; simp at hv; rcases hv with rfl | rfl | rfl <;> rfl) fun h2 S2 => ?_
  exact ld_rawAgg S2 rfl ⟨rfl, S2.old⟩
theorem lto_calls {h : Heap} (z : Int) : ACalls Try.prog F_lateenlaw24_to [.int .i64 z] h (fun v h' => v = .agg #[.int .i64 5, .string ⟨#[]⟩, .int .i64 z] ∧ Old h h') := by
  refine lateenlaw24_to_of ?_
  unfold lateenlaw24_to
  refine new_rawB (Sep.start h) fun p h1 o1 S1 => bst_ref ?_
  refine st_allB S1 rfl rfl (by intro v hv; simp at hv; rcases hv with rfl | rfl | rfl <;> rfl) fun h2 S2 => ?_
  exact ld_rawAgg S2 rfl ⟨rfl, S2.old⟩
theorem bst_var {b : ByteArray} {K : Array Value → Prop} (h : K #[.int .i64 1, .string b, .int .i64 0]) :
    bst [(0, 1), (1, 1), (2, 1)] #[.int .i64 0, .string ⟨#[]⟩, .int .i64 0] [(0, .int .i64 1), (1, .string b)] K := ⟨_, by kernel_rfl, h⟩
theorem rv_varA {h : Heap} (b : ByteArray) : rArg.rv h [.int .i64 1, .string b, .int .i64 0] (varA b) := rv_arg.2 rfl
theorem mvar_calls {h : Heap} (b : ByteArray) : ACalls Try.prog F_matter_variable [.string b] h (fun v h' => v = .agg #[.int .i64 1, .string b, .int .i64 0] ∧ Old h h') := by
  refine matter_variable_of ?_
  unfold matter_variable
  refine new_rawB (Sep.start h) fun p h1 o1 S1 => bst_var ?_
  refine st_allB S1 rfl rfl (by intro v hv; simp at hv; rcases hv with rfl | rfl | rfl <;> rfl) fun h2 S2 => ?_
  exact ld_rawAgg S2 rfl ⟨rfl, S2.old⟩

def inF (l : List Int) (z : Int) : Int := match atF l z with
  | some k => (k : Int)
  | none => -1
theorem atF_take {l : List Int} {z : Int} {i : Nat} (hi : i < l.length) (hno : ∀ x ∈ l.take i, x ≠ z) : (l[i] = z → atF l z = some i) := by
  intro e
  unfold atF
  rw [List.findIdx?_eq_some_iff_getElem]
  refine ⟨hi, by simpa using e, fun j hj => ?_⟩
  have := hno l[j] (by rw [List.mem_iff_getElem]; exact ⟨j, by simp; omega, by simp⟩)
  simpa using this
theorem in_calls {h : Heap} {s : Sl} {l : List Int} (hs : rdSl eInt h s l) (z : Int) : ACalls Try.prog F_lateenref24_in [s.v, .int .i64 z] h (fun v h' => v = .int .i64 (inF l z) ∧ h' = h) := by
  refine lateenref24_in_of ?_
  unfold lateenref24_in
  have hl := hs.lenEq
  have hb := hs.bound
  refine loop_intro (fun m (q : Int) h' => ∃ i : Nat, q = i ∧ i ≤ l.length ∧ m = l.length - i ∧ h' = h ∧ ∀ x ∈ l.take i, x ≠ z) l.length ⟨0, rfl, by omega, by omega, rfl, by simp⟩ ?_
  rintro _ _ _ h1 ⟨i, rfl, hi, rfl, rfl, hno⟩
  refine ifB_intro (fun hc => ?_) (fun hc => ?_)
  · have hil : i < l.length := by rw [hl] at hc; simpa using hc
    refine idx_rdN hs rfl hil fun p _ hp => ld_one (k := .int .i64) hp ?_
    refine ifB_intro (fun he => ?_) (fun he => ?_)
    · have he : l[i] = z := by simpa using he
      refine ⟨?_, rfl⟩
      unfold inF
      rw [atF_take hil hno he]
    · have he : l[i] ≠ z := by simpa using he
      refine ar_i64 (by omega) (by omega) ⟨l.length - (i + 1), by omega, i + 1, rfl, by omega, rfl, rfl, fun x hx => ?_⟩
      rw [List.take_succ_eq_append_getElem hil, List.mem_append, List.mem_singleton] at hx
      rcases hx with hx | rfl
      · exact hno x hx
      · exact he
  · have hil : l.length ≤ i := by rw [hl] at hc; simpa using hc
    rw [List.take_of_length_le hil] at hno
    refine ⟨?_, rfl⟩
    unfold inF
    cases h : atF l z with
    | none => rfl
    | some k =>
      obtain ⟨hk, e⟩ := atF_some h
      exact absurd e (hno _ (List.getElem_mem hk))
theorem inF_iff {l : List Int} {z : Int} : 0 ≤ inF l z ↔ z ∈ l := by
  unfold inF
  cases h : atF l z with
  | none => simp [atF_none h]
  | some k =>
    obtain ⟨hk, e⟩ := atF_some h
    simp only
    exact ⟨fun _ => by rw [← e]; exact List.getElem_mem hk, fun _ => by omega⟩

theorem sameNums_calls {h : Heap} {s t : Sl} {A B : List Int} (ha : rdSl eInt h s A) (hb : rdSl eInt h t B) : ACalls Try.prog F_lateenlaw24_sameIds [s.v, t.v] h (fun v h' => v = .bool (decide (A = B)) ∧ h' = h) := by
  refine lateenlaw24_sameIds_of ?_
  unfold lateenlaw24_sameIds
  refine ACalls.mono (R := fun v h' => v = .bool (decide (A = B)) ∧ h' = h) ?_ (fun v h' ⟨e, e2⟩ => ⟨_, e, rfl, e2⟩)
  refine lateenref16_SameNumbers_of ?_
  unfold lateenref16_SameNumbers
  have hla := ha.lenEq
  have hlb := hb.lenEq
  have hba := ha.bound
  refine ifB_intro (fun hc => ?_) (fun hc => ?_)
  · have hne : A.length ≠ B.length := by
      rw [hla, hlb] at hc
      simp only [bne_iff_ne, ne_eq] at hc
      omega
    exact ⟨by rw [decide_eq_false fun e => hne (by rw [e])], rfl⟩
  · have hle : A.length = B.length := by
      rw [hla, hlb] at hc
      simp only [bne_eq_false_iff_eq] at hc
      omega
    refine loop_intro (fun m (q : Int) h' => ∃ i : Nat, q = i ∧ i ≤ A.length ∧ m = A.length - i ∧ h' = h ∧ A.take i = B.take i) A.length ⟨0, rfl, by omega, by omega, rfl, by simp⟩ ?_
    rintro _ _ _ h1 ⟨i, rfl, hi, rfl, rfl, hsame⟩
    refine ifB_intro (fun hc => ?_) (fun hc => ?_)
    · have hil : i < A.length := by rw [hla] at hc; simpa using hc
      have hil2 : i < B.length := by omega
      refine idx_rdN ha rfl hil fun p _ hp => ld_one (k := .int .i64) hp ?_
      refine idx_rdN hb rfl hil2 fun p _ hp => ld_one (k := .int .i64) hp ?_
      refine ifB_intro (fun he => ?_) (fun he => ?_)
      · have he : A[i] ≠ B[i] := by simpa using he
        refine ⟨by rw [decide_eq_false fun e => he (by simp [e])], rfl⟩
      · have he : A[i] = B[i] := by simpa using he
        refine ar_i64 (by omega) (by omega) ⟨A.length - (i + 1), by omega, i + 1, rfl, by omega, rfl, rfl, ?_⟩
        rw [List.take_succ_eq_append_getElem hil, List.take_succ_eq_append_getElem hil2, hsame, he]
    · have hil : A.length ≤ i := by rw [hla] at hc; simpa using hc
      rw [List.take_of_length_le hil, List.take_of_length_le (by omega)] at hsame
      exact ⟨by rw [decide_eq_true hsame], rfl⟩

/-! Numbers as texts -/
@[reducible] def eU8 : Elem UInt8 := .cell byV (fun _ => rfl)
theorem flat_u8 : eU8.Flat := Elem.cell_flat _ _
theorem rd_bytes {h : Heap} {s : Sl} {l : List UInt8} (r : rdSl eU8 h s l) {K : ByteArray → Prop} (hK : K ⟨l.toArray⟩) : toS h s K := by
  obtain ⟨h1, h2, h3, h4, h5⟩ := r
  refine ⟨⟨l.toArray⟩, h1.symm, ?_, hK⟩
  rcases h5 with rfl | ⟨a, ha, hs, hr⟩
  · exact .inl rfl
  · refine .inr ⟨a, ha, fun j u hj => ?_⟩
    unfold bytesV at hj
    rw [List.getElem?_map] at hj
    obtain ⟨b, hb, rfl⟩ := Option.map_eq_some_iff.1 hj
    obtain ⟨hjl, rfl⟩ := List.getElem?_eq_some_iff.1 hb
    have hjl : j < l.length := by simpa using hjl
    have := hr j hjl
    have e : eU8.size = 1 := rfl
    rw [e, Nat.mul_one] at this
    have e2 : (⟨l.toArray⟩ : ByteArray).data.toList[j]'(by simpa using hjl) = l[j] := by simp
    rw [e2]
    exact this
theorem wrap_u64 {n : Int} (h0 : 0 ≤ n) (h1 : n < 18446744073709551616) : IntKind.u64.wrap n = n := by
  simp only [IntKind.wrap, IntKind.bits, IntKind.signed, Bool.false_and, Bool.false_eq_true, if_false]
  omega
theorem wrap_b8 {n : Int} (h0 : 0 ≤ n) (h1 : n < 256) : IntKind.u8.wrap n = n := by
  simp only [IntKind.wrap, IntKind.bits, IntKind.signed, Bool.false_and, Bool.false_eq_true, if_false]
  omega
theorem psize_calls {h : Heap} {n : Int} (h0 : -9223372036854775808 ≤ n) (h1 : n ≤ 9223372036854775807) : ACalls Try.prog F_lateenref01_size [.int .i64 n] h (fun v h' => v = .int .u64 (n.natAbs : Int) ∧ h' = h) := by
  refine lateenref01_size_of ?_
  unfold lateenref01_size
  refine ifB_intro (fun hc => ?_) (fun hc => ?_)
  · have hc := of_decide_eq_true hc
    unfold ar
    refine ⟨?_, rfl⟩
    congr 1
    simp only [IntKind.wrap, IntKind.bits, IntKind.signed, Bool.false_and, Bool.false_eq_true, if_false]
    omega
  · have hc := of_decide_eq_false hc
    refine ⟨?_, rfl⟩
    rw [wrap_u64 (by omega) (by omega)]
    congr 1
    omega
theorem digit_val (m : Nat) : IntKind.u8.wrap (IntKind.u64.wrap (48 + Int.tmod (m : Int) 10)) = ((UInt8.ofNat (48 + m % 10)).toNat : Int) := by
  have e : Int.tmod (m : Int) 10 = ((m % 10 : Nat) : Int) := by
    rw [Int.tmod_eq_emod_of_nonneg (by omega)]
    omega
  have hlt : m % 10 < 10 := Nat.mod_lt _ (by omega)
  rw [e, wrap_u64 (by omega) (by omega), wrap_b8 (by omega) (by omega)]
  rw [UInt8.toNat_ofNat']
  omega
theorem put_calls {h : Heap} {n : Int} (h0 : -9223372036854775808 ≤ n) (h1 : n ≤ 9223372036854775807) : ACalls Try.prog F_lateenref01_Put [.int .i64 n] h (fun v h' => v = .string (putF n) ∧ Old h h') := by
  refine lateenref01_Put_of ?_
  unfold lateenref01_Put
  refine (psize_calls h0 h1).mono ?_
  rintro v h2 ⟨rfl, rfl⟩
  refine ⟨_, rfl, ?_⟩
  have hlt : n.natAbs < 10 ^ 20 := by omega
  refine loop_intro (fun f (q : Sl × Int) h' => ∃ (m : Nat) (acc : List UInt8), q.2 = m ∧ m < 10 ^ f ∧ 0 < f ∧ acc.length + f = 20 ∧ digs f m acc = digs 20 n.natAbs [] ∧ Fw.Sep h2 h' [ownSl si_Luint8 eU8 q.1 acc]) 20
    ⟨n.natAbs, [], rfl, hlt, by omega, rfl, rfl, (Sep.start h2).nil rfl⟩ ?_
  rintro f _ ⟨b, q⟩ h3 ⟨m, acc, hq, hm, hf, hacc, hd, S⟩
  simp only at hq S ⊢
  subst hq
  refine ⟨by decide, ?_⟩
  refine ar_any ?_
  rw [digit_val]
  obtain ⟨f, rfl⟩ : ∃ g, f = g + 1 := ⟨f - 1, by omega⟩
  refine bld_one (si := si_Luint8) (E := eU8) (x := UInt8.ofNat (48 + m % 10)) (S.nil rfl) (fun h => ⟨rfl, rfl⟩) rfl (by decide) fun s h4 S4 => ?_
  refine app_copy S4 flat_u8 (S4.drop.rd) (by simp only [si_Luint8, List.length_singleton]; omega) (by simp only [List.length_singleton]; omega) fun s1 h5 S5 => ?_
  refine ⟨by decide, ?_⟩
  have ed : IntKind.u64.wrap (Int.tdiv (m : Int) 10) = ((m / 10 : Nat) : Int) := by
    rw [Int.tdiv_eq_ediv_of_nonneg (by omega)]
    have : m < 10 ^ 20 := Nat.lt_of_lt_of_le hm (Nat.pow_le_pow_right (by omega) (by omega))
    rw [wrap_u64 (by omega) (by omega)]
    omega
  rw [ed]
  have hl5 := (digs_len 20 n.natAbs [])
  refine ifB_intro (fun hc => ?_) (fun hc => ?_)
  · have hc : m / 10 = 0 := by
      have := eq_of_beq hc
      omega
    have hres : digs 20 n.natAbs [] = UInt8.ofNat (48 + m % 10) :: acc := by
      rw [← hd]
      unfold digs
      rw [if_pos hc]
    refine ifB_intro (fun hn => ?_) (fun hn => ?_)
    · have hn := of_decide_eq_true hn
      refine rd_bytes (l := UInt8.ofNat (48 + m % 10) :: acc) S5.rd ⟨?_, ?_, S5.old⟩
      · have : (⟨(UInt8.ofNat (48 + m % 10) :: acc).toArray⟩ : ByteArray).size = acc.length + 1 := by
          show (UInt8.ofNat (48 + m % 10) :: acc).toArray.size = _
          simp
        rw [this]
        have : ((⟨#[45]⟩ : ByteArray)).size = 1 := rfl
        rw [this]
        have : IntKind.i64.max = 9223372036854775807 := by decide
        rw [this]
        omega
      · unfold putF
        rw [if_pos hn, hres]
    · have hn := of_decide_eq_false hn
      refine rd_bytes (l := UInt8.ofNat (48 + m % 10) :: acc) S5.rd ⟨?_, S5.old⟩
      unfold putF
      rw [if_neg hn, hres]
  · have hc : m / 10 ≠ 0 := by
      intro e
      rw [e] at hc
      simp at hc
    have hm10 : m / 10 < 10 ^ f := by
      rw [Nat.div_lt_iff_lt_mul (by omega), ← Nat.pow_succ]
      exact hm
    refine ⟨f, by omega, m / 10, UInt8.ofNat (48 + m % 10) :: acc, rfl, hm10, ?_, by simp only [List.length_cons]; omega, ?_, ?_⟩
    · rcases Nat.eq_zero_or_pos f with rfl | h
      · simp at hm10; omega
      · exact h
    · rw [← hd]
      conv => rhs; unfold digs
      rw [if_neg hc]
    · exact S5.swap.drop
end Go.Proofs.Ytncbpalncgcoaaa

/-
  Matter: names, the program, classes, which states are taken.
-/
namespace Go.Proofs.Ytncbpalncgcoaaa
open Go.Fw Go.Fw.I Go.Pl.Api Go.Pl.Vst Go.Pl.Mat Go.Pl.Put

def newS : ByteArray := ⟨#[110, 101, 119]⟩
def namesF (n : Nat) : List ByteArray := (List.range n).map fun (i : Nat) => newS ++ putF (i : Int)
theorem names_calls {h : Heap} {s : Sl} {l : List Int} (hs : rdSl eInt h s l) (hn : l.length ≤ 1000) : ACalls Try.prog F_lateenlaw24_names [s.v] h (fun v h' => ∃ s' : Sl, v = s'.v ∧ Fw.Sep h h' [ownSl si_Lstring eStr s' (namesF l.length)]) := by
  refine lateenlaw24_names_of ?_
  unfold lateenlaw24_names
  have hl := hs.lenEq
  rw [hl]
  have S0 : Fw.Sep h h [ownSl si_Lstring eStr ⟨none, 0, 0⟩ (namesF 0)] := (Sep.start h).nil rfl
  refine loop_intro (fun m (q : Sl × Int) h' => ∃ i : Nat, q.2 = i ∧ i ≤ l.length ∧ m = l.length - i ∧ Fw.Sep h h' [ownSl si_Lstring eStr q.1 (namesF i)]) l.length ⟨0, rfl, by omega, by omega, S0⟩ ?_
  rintro _ _ ⟨out, i⟩ h1 ⟨i, hi0, hi, rfl, S⟩
  simp only at hi0 S ⊢
  subst hi0
  refine ifB_intro (fun hc => ?_) (fun hc => ?_)
  · have hil : i < l.length := by simpa using hc
    refine (put_calls (by omega) (by omega)).mono ?_
    rintro v h2 ⟨rfl, o2⟩
    refine ⟨_, rfl, ?_, ?_⟩
    · have := put_size (i : Int)
      have e : ((⟨#[110, 101, 119]⟩ : ByteArray)).size = 3 := rfl
      have e2 : IntKind.i64.max = 9223372036854775807 := by decide
      rw [e, e2]
      omega
    refine app1_flat (x := newS ++ putF (i : Int)) (S.grow o2) (fun h => ⟨rfl, rfl⟩) rfl (by decide) (by simp only [namesF, List.length_map, List.length_range, si_Lstring]; omega) (by simp only [namesF, List.length_map, List.length_range]; omega) fun s' h' S' => ?_
    refine ar_i64 (by omega) (by omega) ⟨l.length - (i + 1), by omega, i + 1, rfl, by omega, rfl, ?_⟩
    have e : namesF (i + 1) = namesF i ++ [newS ++ putF (i : Int)] := by simp [namesF, List.range_succ]
    rw [e]
    exact S'
  · have hil : i = l.length := by have hc : ¬ i < l.length := by simpa using hc
                                  omega
    subst hil
    exact ⟨out, rfl, S⟩
theorem made_calls {h : Heap} {cs : Array Value} {a : MArg} (ha : rArg.rv h cs.toList a) : ACalls Try.prog F_lateenlaw24_made [.agg cs] h (fun v h' => ∃ b : Bool, v = .bool b ∧ Old h h') := by
  refine lateenlaw24_made_of ?_
  unfold lateenlaw24_made
  refine new_rv ha fun p h1 o1 hp => ?_
  intro k hk
  have fin : ∀ b, k b h1 := fun b => hk _ _ fun _ => ⟨b, rfl, o1⟩
  refine ld_int (fld_argK.rd hp) (hExt.refl _) ?_
  refine ifB_intro (fun _ => ?_) (fun _ => fin _)
  refine ld_str (fld_argS.rd hp) (hExt.refl _) ?_
  refine ifB_intro (fun hc => ?_) (fun _ => fin _)
  have hc := of_decide_eq_true hc
  refine ld_str (fld_argS.rd hp) (hExt.refl _) ?_
  exact ⟨by simp, by simp, by simp only [Option.getD_some]; omega, fin _⟩

/-! The program -/
def pS : ByteArray := ⟨#[80]⟩
def nS : ByteArray := ⟨#[110]⟩
def mS : ByteArray := ⟨#[109]⟩
def clsP : MClass := ⟨pS, [⟨nS, pS⟩, ⟨mS, pS⟩]⟩
def progP : MProg := ⟨false, [clsP], [], [], []⟩
theorem program_calls {h : Heap} : ACalls Try.prog F_lateenlaw24_program [] h (fun v h' => ∃ cs : Array Value, v = .agg cs ∧ cs.size = 5 ∧ Old h h' ∧ rProg.rv h' cs.toList progP) := by
  refine lateenlaw24_program_of ?_
  unfold lateenlaw24_program
  refine new_rawB (Sep.start h) fun p h1 o1 S1 => ?_
  refine ⟨#[.string nS, .string pS], by kernel_rfl, ⟨#[.string mS, .string pS], by kernel_rfl, ?_⟩⟩
  refine bld_rule (E := eVar) (l := clsP.fields) (us := [.string nS, .string pS, .string mS, .string pS]) (S1.free (A := ownRow eVar [.string nS, .string pS, .string mS, .string pS] clsP.fields) loc_ownRow ?_) (by kernel_rfl) rfl rfl (by decide) (by decide) fun s h2 S2 => ?_
  · exact ⟨[.string nS, .string pS], [.string mS, .string pS], [], [], rfl, rfl, own_var ⟨nS, pS⟩ _, [.string mS, .string pS], [], [], [], rfl, rfl, own_var ⟨mS, pS⟩ _, rfl, rfl⟩
  refine ⟨#[.string pS, s.v], by kernel_rfl, ?_⟩
  have S2' : Fw.Sep h h2 (ownRow (eCls si_Lapi_Var) [.string pS, s.v] [clsP] :: rawB p _ :: []) := S2.conv loc_ownRow fun f o => ⟨f, List.Sublist.refl f, ⟨[.string pS, s.v], [], f, [], rfl, by simp, ⟨s, rfl, o⟩, rfl, rfl⟩⟩
  refine bld_rule (l := [clsP]) (us := [.string pS, s.v]) S2' (by kernel_rfl) rfl rfl (by decide) (by decide) fun s1 h3 S3 => ?_
  refine ⟨#[.bool false, s1.v, .slice none 0 0, .slice none 0 0, .slice none 0 0], by kernel_rfl, ?_⟩
  refine st_allB S3.swap rfl rfl ?_ fun h4 S4 => ?_
  · intro v hv; simp at hv; rcases hv with rfl | rfl | rfl <;> rfl
  refine ld_rawAgg S4 rfl ⟨_, rfl, rfl, S4.old, ?_⟩
  exact rv_prog (p := progP) (s1 := s1) (s2 := ⟨none, 0, 0⟩) (s3 := ⟨none, 0, 0⟩) (s4 := ⟨none, 0, 0⟩) S4.swap.rd rd_nilSl rd_nilSl rd_nilSl rfl

/-! Classes -/
def zClass : MClass := ⟨⟨#[]⟩, []⟩
def classF (p : MProg) (n : ByteArray) : Option MClass := p.classes.find? fun c => c.name.toList == n.toList
theorem className_calls {h : Heap} {cs : Array Value} {c : MClass} (hc : rClass.rv h cs.toList c) : ACalls Try.prog F_types_className [.agg cs] h (fun v h' => v = .string c.name ∧ Old h h') := by
  refine types_className_of ?_
  unfold types_className
  refine new_rv hc fun p h1 o1 hp => ?_
  exact ld_str (fld_cName.rd hp) (hExt.refl _) ⟨rfl, o1⟩
theorem find_take {α : Type} {p : α → Bool} {l : List α} {i : Nat} (hi : i < l.length) (hno : ∀ x ∈ l.take i, p x = false) (hp : p l[i] = true) : l.find? p = some l[i] := by
  rw [List.find?_eq_some_iff_getElem]
  refine ⟨hp, i, hi, rfl, fun j hj => ?_⟩
  have := hno l[j] (by rw [List.mem_iff_getElem]; exact ⟨j, by simp; omega, by simp⟩)
  simp [this]
theorem rv_zClass {h : Heap} : rClass.rv h [.string ⟨#[]⟩, .slice none 0 0] zClass := rv_class.2 ⟨⟨none, 0, 0⟩, rfl, rd_nilSl⟩
theorem arr_class {h : Heap} {cs : Array Value} {c : MClass} (r : rClass.rv h cs.toList c) : ∃ s : Sl, cs = #[.string c.name, s.v] ∧ rdSl rVar.el h s c.fields := by
  obtain ⟨s, h1, h2⟩ := rv_class.1 r
  exact ⟨s, Array.toList_inj.1 h1, h2⟩
theorem one_class {h : Heap} {cs : Array Value} {c : MClass} (r : rClass.rv h cs.toList c) : ∀ v ∈ cs.toList, v.oneCell' = true := rClass.one r
theorem tfind_calls {hb h : Heap} {s : Sl} {l : List MClass} {n : ByteArray} (hsb : rdSl rClass.el hb s l) (ob : Old hb h) :
    ACalls Try.prog F_types_find [s.v, .string n, .func (.func F_types_className) #[] #[]] h (fun v h' => ∃ cs : Array Value, v = .tuple #[.agg cs, .bool (l.find? fun c => c.name.toList == n.toList).isSome] ∧ cs.size = 2 ∧ Old h h' ∧ rClass.rv hb cs.toList ((l.find? fun c => c.name.toList == n.toList).getD zClass)) := by
  refine types_find_of ?_
  unfold types_find
  refine new_rawB (Sep.start h) fun p h1 o1 S1 => ?_
  have hl := hsb.lenEq
  have hlb := hsb.bound
  refine loop_intro (fun m (q : Int) h' => ∃ i : Nat, q = i ∧ i ≤ l.length ∧ m = l.length - i ∧ Fw.Sep h h' [rawB p #[.string ⟨#[]⟩, .slice none 0 0]] ∧ ∀ c ∈ l.take i, (c.name.toList == n.toList) = false) l.length
    ⟨0, rfl, by omega, by omega, S1, by simp⟩ ?_
  rintro _ _ _ h2 ⟨i, rfl, hi, rfl, S, hno⟩
  refine ifB_intro (fun hc => ?_) (fun hc => ?_)
  · have hil : i < l.length := by rw [hl] at hc; simpa using hc
    refine idx_rdN hsb rfl hil fun p1 _ hp1 => ?_
    refine ld_agg hp1 (ob.trans S.old).ext rfl fun cs hcs => ?_
    refine new_stR S rfl (size_rv hcs) (one_class hcs) fun p2 h4 S4 => ?_
    refine ld_rawAgg S4 (size_rv hcs).symm ?_
    refine ⟨F_types_className, #[], rfl, by unfold FnOk; kernel_rfl, ?_⟩
    have hcs4 := rClass.ext hcs (ob.trans S4.old).ext
    have := className_calls (h := h4) hcs4
    simp only [List.append_nil]
    refine this.mono ?_
    rintro v h5 ⟨rfl, o5⟩
    refine ⟨_, rfl, ?_⟩
    refine ifB_intro (fun he => ?_) (fun he => ?_)
    · refine ld_rawAgg (S4.grow o5) (size_rv hcs).symm ?_
      refine st_allB (S4.grow o5).swap rfl (size_rv hcs) (one_class hcs) fun h6 S6 => ?_
      refine ld_rawAgg S6 (size_rv hcs).symm ⟨cs, ?_, size_rv hcs, S6.old, ?_⟩
      · rw [find_take hil hno he]; rfl
      · rw [find_take hil hno he]; exact hcs
    · refine ar_i64 (by omega) (by omega) ⟨l.length - (i + 1), by omega, i + 1, rfl, by omega, rfl, (S4.grow o5).drop, fun c hc => ?_⟩
      rw [List.take_succ_eq_append_getElem hil, List.mem_append, List.mem_singleton] at hc
      rcases hc with hc | rfl
      · exact hno c hc
      · exact he
  · have hil : l.length ≤ i := by rw [hl] at hc; simpa using hc
    rw [List.take_of_length_le hil] at hno
    have hf : (l.find? fun c => c.name.toList == n.toList) = none := by
      rw [List.find?_eq_none]
      intro c hc
      rw [hno c hc]
      simp
    refine new_rawB S fun p3 h7 o7 S7 => ?_
    refine ld_rawAgg S7 rfl ?_
    refine st_allB S7.swap rfl rfl ?_ fun h8 S8 => ?_
    · intro v hv; simp at hv; rcases hv with rfl | rfl <;> rfl
    exact ld_rawAgg S8 rfl ⟨_, by rw [hf]; rfl, rfl, S8.old, by rw [hf]; exact rv_zClass⟩
theorem new_bx {α : Type} {E : RV α} {hb h : Heap} {t : TypeId} {cs : Array Value} {x : α} {K : Addr → Heap → Prop} (r : E.rv hb cs.toList x) (hK : ∀ p h', Old h h' → E.bx hb h' p x → K p h') : new t cs h K := by
  refine hK _ _ (Old.push _ _) ⟨rfl, cs.toList, fun j v hj => ?_, r⟩
  rw [Addr.add_none, Nat.zero_add]
  unfold hcell
  simp only [Array.getElem?_push_size]
  simpa using hj
theorem tclass_calls {hb h : Heap} {cs : Array Value} {p : MProg} {n : ByteArray} (hp : rProg.rv hb cs.toList p) (o : Old hb h) :
    ACalls Try.prog F_types_Class [.agg cs, .string n] h (fun v h' => ∃ ds : Array Value, v = .tuple #[.agg ds, .bool (classF p n).isSome] ∧ ds.size = 2 ∧ Old h h' ∧ rClass.rv hb ds.toList ((classF p n).getD zClass)) := by
  refine types_Class_of ?_
  unfold types_Class
  refine new_bx hp fun p1 h1 o1 hp1 => ?_
  refine new_rawB (Sep.start h1) fun p2 h2 o2 S2 => ?_
  refine ld_lstX (fld_pClasses.bx (RV.bx_old hp1 o2)) fun s hs => ?_
  refine (tfind_calls (n := n) hs (o.trans (o1.trans o2))).mono ?_
  rintro v h3 ⟨ds, rfl, hd, o3, hds⟩
  refine ⟨_, _, rfl, ?_⟩
  refine st_allB (S2.grow o3) rfl hd (one_class hds) fun h4 S4 => ?_
  exact ld_rawAgg S4 hd.symm ⟨ds, rfl, hd, o1.trans S4.old, hds⟩
end Go.Proofs.Ytncbpalncgcoaaa

/-
  Matter: the document's classes; which states are taken; rounds; the graph.
-/
namespace Go.Proofs.Ytncbpalncgcoaaa
open Go.Fw Go.Fw.I Go.Pl.Api Go.Pl.Vst Go.Pl.Mat Go.Pl.Put

theorem rclass_calls {hb h : Heap} {cs : Array Value} {p : MProg} {n : ByteArray} (hp : rProg.rv hb cs.toList p) (o : Old hb h) :
    ACalls Try.prog F_lateenref07_Class [.agg cs, .string n] h (fun v h' => ∃ ds : Array Value, v = .tuple #[.agg ds, .bool (classF p n).isSome] ∧ ds.size = 2 ∧ Old h h' ∧ rClass.rv hb ds.toList ((classF p n).getD zClass)) := by
  refine lateenref07_Class_of ?_
  unfold lateenref07_Class
  refine new_bx hp fun p1 h1 o1 hp1 => ?_
  refine new_rawB (Sep.start h1) fun p2 h2 o2 S2 => ?_
  refine loop_intro (fun m (q : Int) h' => ∃ i : Nat, q = i ∧ i ≤ p.classes.length ∧ m = p.classes.length - i ∧ Fw.Sep h1 h' [rawB p2 #[.string ⟨#[]⟩, .slice none 0 0]] ∧ ∀ c ∈ p.classes.take i, (c.name.toList == n.toList) = false) p.classes.length
    ⟨0, rfl, by omega, by omega, S2, by simp⟩ ?_
  clear S2 o2
  rintro _ _ _ h3 ⟨i, rfl, hi, rfl, S, hno⟩
  have hp1 := RV.bx_old hp1 S.old
  have o3 : Old hb h3 := o.trans (o1.trans S.old)
  refine ld_lstX (fld_pClasses.bx hp1) fun s hs => ?_
  have hl := hs.lenEq
  have hlb := hs.bound
  refine ifB_intro (fun hc => ?_) (fun hc => ?_)
  · have hil : i < p.classes.length := by rw [hl] at hc; simpa using hc
    refine ld_lstX (fld_pClasses.bx hp1) fun s2 hs2 => ?_
    refine idx_rdN hs2 rfl hil fun p3 _ hp3 => ?_
    refine ld_str (fld_cName.rd hp3) o3.ext ?_
    refine ifB_intro (fun he => ?_) (fun he => ?_)
    · refine ld_lstX (fld_pClasses.bx hp1) fun s4 hs4 => ?_
      refine idx_rdN hs4 rfl hil fun p4 _ hp4 => ?_
      refine ld_agg hp4 o3.ext rfl fun ds hds => ?_
      refine st_allB S rfl (size_rv hds) (one_class hds) fun h4 S4 => ?_
      have hf : classF p n = some p.classes[i] := find_take hil hno he
      exact ld_rawAgg S4 (size_rv hds).symm ⟨ds, by rw [hf]; rfl, size_rv hds, o1.trans S4.old, by rw [hf]; exact hds⟩
    · refine ar_i64 (by omega) (by omega) ⟨p.classes.length - (i + 1), by omega, i + 1, rfl, by omega, rfl, S, fun c hc => ?_⟩
      rw [List.take_succ_eq_append_getElem hil, List.mem_append, List.mem_singleton] at hc
      rcases hc with hc | rfl
      · exact hno c hc
      · exact he
  · have hil : p.classes.length ≤ i := by rw [hl] at hc; simpa using hc
    rw [List.take_of_length_le hil] at hno
    have hf : classF p n = none := by
      unfold classF
      rw [List.find?_eq_none]
      intro c hc
      rw [hno c hc]
      simp
    refine ⟨#[.string ⟨#[]⟩, .slice none 0 0], by kernel_rfl, ?_⟩
    refine st_allB S rfl rfl ?_ fun h4 S4 => ?_
    · intro v hv; simp at hv; rcases hv with rfl | rfl <;> rfl
    exact ld_rawAgg S4 rfl ⟨_, by rw [hf]; rfl, rfl, o1.trans S4.old, by rw [hf]; exact rv_zClass⟩

/-- Which states are taken. -/
structure OkS (l : List MObj) : Prop where
  few : fewF l = true
  right : rightF l = true
  len : l.length ≤ 12
  cls : ∀ o ∈ l, o.cls = pS
  vals : ∀ o ∈ l, o.vals.length = 2
theorem right_calls {h : Heap} {s : Sl} {l : List MObj} (hs : rdSl rObj.el h s l) : ACalls Try.prog F_lateenlaw24_right [s.v] h (fun v h' => ∃ b : Bool, v = .bool b ∧ Old h h' ∧ (b = true → OkS l)) := by
  refine lateenlaw24_right_of ?_
  unfold lateenlaw24_right
  have hl := hs.lenEq
  intro k hk
  have no : ∀ h', Old h h' → k true h' := fun h' o => hk _ _ fun _ => ifB_true rfl ⟨false, rfl, o, nofun⟩
  refine (few_calls hs).mono ?_
  rintro v h0 ⟨rfl, e⟩
  have e := e.symm
  subst e
  refine ⟨_, rfl, ?_⟩
  cases hf : fewF l with
  | false => exact ifB_true rfl (no _ (.refl _))
  | true =>
  refine ifB_false rfl ?_
  refine (refRight_calls hs).mono ?_
  rintro v h1 ⟨rfl, o1⟩
  refine ⟨_, rfl, ?_⟩
  cases hr : rightF l with
  | false => exact ifB_true rfl (no _ o1)
  | true =>
  refine ifB_false rfl ?_
  rw [hl]
  rcases Nat.lt_or_ge 12 l.length with h12 | h12
  · rw [decide_eq_true (by omega)]; exact no _ o1
  rw [decide_eq_false (by omega)]
  refine hk _ _ fun _ => ifB_false rfl ?_
  refine loop_intro (fun m (q : Int) h' => ∃ i : Nat, q = i ∧ i ≤ l.length ∧ m = l.length - i ∧ Old h h' ∧ ∀ o ∈ l.take i, o.cls = pS ∧ o.vals.length = 2) l.length ⟨0, rfl, by omega, by omega, o1, by simp⟩ ?_
  rintro _ _ _ h2 ⟨i, rfl, hi, rfl, o2, hall⟩
  refine ifB_intro (fun hc => ?_) (fun hc => ?_)
  · have hil : i < l.length := by rw [hl] at hc; simpa using hc
    intro k1 hk1
    have no1 : ∀ h', Old h h' → k1 true h' := fun h' o => hk1 _ _ fun _ => ifB_true rfl ⟨false, rfl, o, nofun⟩
    refine idx_rdN hs rfl hil fun p _ hp => ?_
    refine ld_str (fld_oCls.rd hp) o2.ext ?_
    refine ifB_intro (fun _ => no1 _ o2) (fun hcls => ?_)
    have hcls : l[i].cls = pS := by
      simp only [Bool.not_eq_false'] at hcls
      have := toList_beq (a := l[i].cls) (b := ⟨#[80]⟩)
      rw [hcls] at this
      exact of_decide_eq_true this.symm
    refine idx_rdN hs rfl hil fun p1 _ hp1 => ?_
    refine ld_lst (fld_oVals.rd hp1) o2.ext fun x hx => ?_
    have hxl := hx.lenEq
    refine ifB_intro (fun _ => no1 _ o2) (fun hv => ?_)
    have hv : l[i].vals.length = 2 := by rw [hxl] at hv; simp at hv; omega
    refine idx_rdN hs rfl hil fun p2 _ hp2 => ?_
    refine ld_agg (fld_oReal.rd hp2) o2.ext rfl fun c1 hc1 => ?_
    refine (made_calls (rArg.ext hc1 o2.ext)).mono ?_
    rintro v h3 ⟨b, rfl, o3⟩
    have o3 := o2.trans o3
    refine ⟨_, rfl, ?_⟩
    refine ifB_intro (fun _ => no1 _ o3) (fun _ => ?_)
    refine idx_rdN hs rfl hil fun p3 _ hp3 => ?_
    refine ld_lst (fld_oVals.rd hp3) o3.ext fun y hy => ?_
    refine idx_rdN (i := 0) hy rfl (by omega) fun p4 _ hp4 => ?_
    refine ld_agg hp4 o3.ext rfl fun c2 hc2 => ?_
    refine (made_calls (rArg.ext hc2 o3.ext)).mono ?_
    rintro v h4 ⟨b2, rfl, o4⟩
    have o4 := o3.trans o4
    refine ⟨_, rfl, ?_⟩
    refine ifB_intro (fun _ => no1 _ o4) (fun _ => ?_)
    refine idx_rdN hs rfl hil fun p5 _ hp5 => ?_
    refine ld_lst (fld_oVals.rd hp5) o4.ext fun z hz => ?_
    refine idx_rdN (i := 1) hz rfl (by omega) fun p6 _ hp6 => ?_
    refine ld_agg hp6 o4.ext rfl fun c3 hc3 => ?_
    refine (made_calls (rArg.ext hc3 o4.ext)).mono ?_
    rintro v h5 ⟨b3, rfl, o5⟩
    have o5 := o4.trans o5
    refine ⟨_, rfl, ?_⟩
    cases b3 with
    | true => exact no1 _ o5
    | false =>
    refine hk1 _ _ fun _ => ifB_false rfl ?_
    refine ar_i64 (by omega) (by omega) ⟨l.length - (i + 1), by omega, i + 1, rfl, by omega, rfl, o5, fun o ho => ?_⟩
    rw [List.take_succ_eq_append_getElem hil, List.mem_append, List.mem_singleton] at ho
    rcases ho with ho | rfl
    · exact hall o ho
    · exact ⟨hcls, hv⟩
  · have hil : l.length ≤ i := by rw [hl] at hc; simpa using hc
    rw [List.take_of_length_le hil] at hall
    exact ⟨true, rfl, o2, fun _ => ⟨hf, hr, h12, fun o ho => (hall o ho).1, fun o ho => (hall o ho).2⟩⟩

theorem ref_bld {h : Heap} (z : Int) {K : Sl → Heap → Prop} (hK : ∀ s h', Old h h' → rdSl rArg.el h' s [toA z] → K s h') :
    bld si_Lapi_Arg 1 [(0, .agg #[.int .i64 5, .string ⟨#[]⟩, .int .i64 z])] h K :=
  bld_one (si := si_Lapi_Arg) (E := eArg) (x := toA z) ((Sep.start h).nil rfl) (fun _ => ⟨rfl, rfl⟩) rfl (by decide) fun s h' S => hK s h' S.old (rd_arg.1 S.rd)
theorem round_calls {h : Heap} {s : Sl} {l : List MObj} {a b : Int} (hs : rdSl rObj.el h s l) (hn : l.length ≤ 1000) : ACalls Try.prog F_lateenref24_round [s.v, .int .i64 a, .int .i64 b] h (fun v h' => v = .bool (roundB l a b) ∧ Old h h') := by
  refine lateenref24_round_of ?_
  unfold lateenref24_round
  intro k hk
  refine (rto_calls a).mono ?_
  rintro v h1 ⟨rfl, o1⟩
  refine ⟨_, rfl, ref_bld a fun s1 h2 o2 hs1 => ?_⟩
  have o2 := o1.trans o2
  refine (refReach_calls (hs.old o2) hs1 hn).mono ?_
  rintro v h3 ⟨r1, rfl, S3⟩
  refine ⟨_, rfl, ?_⟩
  refine (in_calls S3.rd b).mono ?_
  rintro v _ ⟨rfl, rfl⟩
  have o3 := o2.trans S3.old
  refine ⟨_, rfl, ?_⟩
  refine ifB_intro (fun hc => ?_) (fun hc => ?_)
  · have hb := inF_iff.1 (of_decide_eq_true hc)
    refine (rto_calls b).mono ?_
    rintro v h4 ⟨rfl, o4⟩
    have o4 := o3.trans o4
    refine ⟨_, rfl, ref_bld b fun s2 h5 o5 hs2 => ?_⟩
    have o5 := o4.trans o5
    refine (refReach_calls (hs.old o5) hs2 hn).mono ?_
    rintro v h6 ⟨r2, rfl, S6⟩
    refine ⟨_, rfl, ?_⟩
    refine (in_calls S6.rd a).mono ?_
    rintro v _ ⟨rfl, rfl⟩
    refine ⟨_, rfl, hk _ _ fun _ => ⟨?_, o5.trans S6.old⟩⟩
    congr 1
    unfold roundB
    rw [decide_eq_true hb, Bool.true_and]
    by_cases ha : a ∈ reachF l [toA b]
    · rw [decide_eq_true ha, decide_eq_true (inF_iff.2 ha)]
    · rw [decide_eq_false ha, decide_eq_false fun h => ha (inF_iff.1 h)]
  · have hb : b ∉ reachF l [toA a] := fun h => absurd (inF_iff.2 h) (of_decide_eq_false hc)
    refine hk _ _ fun _ => ⟨?_, o3⟩
    unfold roundB
    rw [decide_eq_false hb, Bool.false_and]
end Go.Proofs.Ytncbpalncgcoaaa

/-
  Matter: the graph of what means what.
-/
namespace Go.Proofs.Ytncbpalncgcoaaa
open Go.Fw Go.Fw.I Go.Pl.Api Go.Pl.Vst Go.Pl.Mat Go.Pl.Put Go.Pl

theorem fm_one {α β : Type} (f : α → Option β) (a : α) : [a].filterMap f = (f a).toList := by cases h : f a <;> simp [h]
def vfI : Int → Value := fun n => .int .i64 n
theorem one_arg {h : Heap} {cs : Array Value} {a : MArg} (r : rArg.rv h cs.toList a) : ∀ v ∈ cs.toList, v.oneCell' = true := rArg.one r
theorem one_obj {h : Heap} {cs : Array Value} {a : MObj} (r : rObj.rv h cs.toList a) : ∀ v ∈ cs.toList, v.oneCell' = true := rObj.one r
/-- What a found object is, laid in a box. -/
theorem own_found {h0 h : Heap} {L : List As} {ds : Array Value} {o : MObj} (S : Fw.Sep h0 h (ownEl (eObj si_Lapi_Arg) ds.toList o :: L)) :
    ∃ x : Sl, ds = #[.int .i64 o.id, .string o.cls, x.v, .int .i64 o.real.kind, .string o.real.s, .int .i64 o.real.n] ∧ Fw.Sep h0 h (ownSl si_Lapi_Arg eArg x o.vals :: L) := by
  obtain ⟨f, x, e, o1⟩ := S.get
  refine ⟨x, Array.toList_inj.1 e, S.conv loc_ownSl fun f' o2 => ⟨f', List.Sublist.refl f', ?_⟩⟩
  obtain ⟨x', e', o3⟩ := o2
  rw [e] at e'
  have : x.v = x'.v := by
    simp only [List.cons.injEq] at e'
    exact e'.2.2.1
  rw [Sl.v_inj this]
  exact o3
structure PlaceM (ids : List Int) (i : Nat) (M : List (Int × Int)) : Prop where
  got : ∀ j (hj : j < ids.length), j < i → aget ids[j] M = some (j : Int)
  only : ∀ z, aget z M ≠ none → ∃ j, ∃ hj : j < ids.length, j < i ∧ ids[j] = z
theorem PlaceM.at {ids : List Int} {M : List (Int × Int)} (hn : ids.Pairwise (· ≠ ·)) (P : PlaceM ids ids.length M) (z : Int) : aget z M = Option.map (fun (k : Nat) => (k : Int)) (atF ids z) := by
  cases h : atF ids z with
  | none =>
    cases h2 : aget z M with
    | none => rfl
    | some x =>
      obtain ⟨j, hj, _, e⟩ := P.only z (by rw [h2]; simp)
      exact absurd (by rw [← e]; exact List.getElem_mem hj) (atF_none h)
  | some k =>
    obtain ⟨hk, e⟩ := atF_some h
    rw [← e, P.got k hk hk]
    rfl
theorem find_id {l : List MObj} {z : Int} {o : MObj} (h : findF l (toA z) = some o) : o ∈ l := (findF_some h).2.1
theorem objF_vals {l : List MObj} {n : Nat} (hv : ∀ o ∈ l, o.vals.length ≤ n) (z : Int) : (objF l z).vals.length ≤ n := by
  unfold objF
  cases h : findF l (toA z) with
  | none => simp [zObj]
  | some o => exact hv o (find_id h)
set_option maxHeartbeats 1000000 in
theorem graph_calls {h : Heap} {s t : Sl} {l : List MObj} {ids : List Int} (hs : rdSl rObj.el h s l) (ht : rdSl eInt h t ids) (hr : Rising l) (hids : ids.Pairwise (· ≠ ·)) (hn : ids.length ≤ 1000) (hln : l.length ≤ 1000) (hv : ∀ o ∈ l, o.vals.length ≤ 1000) :
    ACalls Try.prog F_matter_graph [s.v, t.v] h (fun v h' => ∃ g : Sl, v = g.v ∧ Fw.Sep h h' [ownSl si_LLint eInts g (graphF l ids)]) := by
  refine matter_graph_of ?_
  unfold matter_graph
  have hl := ht.lenEq
  rw [hl]
  refine mkm_rule (vf := vfI) (Sep.start h) fun m h1 o1 S1 => ?_
  refine loop_intro (fun n (q : Int) h' => ∃ (i : Nat) (M : List (Int × Int)), q = i ∧ i ≤ ids.length ∧ n = ids.length - i ∧ PlaceM ids i M ∧ Fw.Sep h h' [ownM vfI m M]) ids.length
    ⟨0, [], rfl, by omega, by omega, ⟨fun j hj h => by omega, fun z h => absurd rfl h⟩, S1⟩ ?_
  clear S1
  rintro _ _ _ h2 ⟨i, M, rfl, hi, rfl, P, S⟩
  refine ifB_intro (fun hc => ?_) (fun hc => ?_)
  · have hil : i < ids.length := by simpa using hc
    refine idx_rdN ht rfl hil fun p _ hp => ld_oneB (k := .int .i64) hp S.old ?_
    refine mup_rule (x := (i : Int)) S rfl fun h3 S3 => ?_
    refine ar_i64 (by omega) (by omega) ⟨ids.length - (i + 1), by omega, i + 1, _, rfl, by omega, rfl, ⟨fun j hj hji => ?_, fun z hz => ?_⟩, S3⟩
    · rw [aget_put]
      by_cases e : ids[j] = ids[i]
      · rw [if_pos e, nodup_at hids hj hil e]
      · rw [if_neg e]
        refine P.got j hj ?_
        rcases Nat.lt_or_ge j i with h | h
        · exact h
        · have : j = i := by omega
          subst this
          exact absurd rfl e
    · rw [aget_put] at hz
      split at hz
      · rename_i e
        exact ⟨i, hil, by omega, e.symm⟩
      · obtain ⟨j, hj, hji, e⟩ := P.only z hz
        exact ⟨j, hj, by omega, e⟩
  have hil : i = ids.length := by have hc : ¬ i < ids.length := by simpa using hc
                                  omega
  subst hil
  have hM := P.at hids
  clear P
  refine ⟨rfl, mk_rule (x := []) (E := eInts) S rfl (fun _ => ⟨⟨none, 0, 0⟩, rfl, ownSl_nil _ _ rfl _⟩) (by omega) (by omega) (by simp only [si_LLint]; omega) fun g h4 S4 => ?_⟩
  rw [Int.toNat_natCast] at S4
  refine loop_intro (fun n (q : Int) h' => ∃ (i : Nat) (R : Graph), q = i ∧ i ≤ ids.length ∧ n = ids.length - i ∧ R.length = ids.length ∧ (∀ r (hr : r < R.length) (hr2 : r < ids.length), R[r] = if r < i then (objF l ids[r]).vals.filterMap (refF ids) else []) ∧
      Fw.Sep h h' [ownSl si_LLint eInts g R, ownM vfI m M]) ids.length
    ⟨0, _, rfl, by omega, by omega, by simp, fun r hr hr2 => by simp, S4⟩ ?_
  clear S S4
  rintro _ _ _ h5 ⟨i, R, rfl, hi, rfl, hRl, hR, S⟩
  refine ifB_intro (fun hc => ?_) (fun hc => ?_)
  · have hil : i < ids.length := by simpa using hc
    refine idx_rdN ht rfl hil fun p _ hp => ld_oneB (k := .int .i64) hp S.old ?_
    refine (mto_calls _).mono ?_
    rintro v h6 ⟨rfl, o6⟩
    refine ⟨_, rfl, ?_⟩
    have S6 := S.grow o6
    refine (Find_calls (a := toA ids[i]) (hs.old S6.old) (rv_toA _) hr (by omega) fun o ho => Nat.le_trans (hv o ho) (by omega)).mono ?_
    rintro v h7 ⟨ds, rfl, hds, S7⟩
    refine ⟨_, _, rfl, ?_⟩
    have S7 : Fw.Sep h h7 (ownEl (eObj si_Lapi_Arg) ds.toList (objF l ids[i]) :: ownSl si_LLint eInts g R :: ownM vfI m M :: []) := S6.frame S7
    obtain ⟨x, rfl, S8⟩ := own_found S7
    refine new_stR S8 rfl rfl ?_ fun p2 h9 S9 => ?_
    · intro v hv; simp at hv; rcases hv with rfl | rfl | rfl | rfl | rfl | rfl <;> rfl
    refine ld_rawB (i := 2) (x := x) S9 rfl rfl ?_
    have hxl := S9.drop.rd.lenEq
    have hvl := objF_vals hv ids[i]
    generalize hvs : (objF l ids[i]).vals = vals at *
    refine loop_intro (fun n (q : Int) h' => ∃ (j : Nat) (R' : Graph), q = j ∧ j ≤ vals.length ∧ n = vals.length - j ∧ R'.length = ids.length ∧
        (∀ r (hr : r < R'.length) (hr2 : r < ids.length), R'[r] = if r < i then (objF l ids[r]).vals.filterMap (refF ids) else if r = i then (vals.take j).filterMap (refF ids) else []) ∧
        Fw.Sep h h' [rawB p2 _, ownSl si_Lapi_Arg eArg x vals, ownSl si_LLint eInts g R', ownM vfI m M]) vals.length
      ⟨0, R, rfl, by omega, by omega, hRl, fun r hr hr2 => by rw [hR r hr hr2]; simp, S9⟩ ?_
    clear S S6 S7 S8 S9 hR hRl
    rintro _ _ _ h10 ⟨j, R', rfl, hj, rfl, hRl, hR, S⟩
    refine ifB_intro (fun hc => ?_) (fun hc => ?_)
    · have hjl : j < vals.length := by rw [hxl] at hc; simpa using hc
      intro k hk
      have fin : ∀ h' (R2 : Graph), R2.length = ids.length → (∀ r (hr : r < R2.length) (hr2 : r < ids.length), R2[r] = if r < i then (objF l ids[r]).vals.filterMap (refF ids) else if r = i then (vals.take (j + 1)).filterMap (refF ids) else []) →
          Fw.Sep h h' [rawB p2 _, ownSl si_Lapi_Arg eArg x vals, ownSl si_LLint eInts g R2, ownM vfI m M] → k () h' := fun h' R2 h1 h2 S2 =>
        hk _ _ fun _ => ar_i64 (by omega) (by omega) ⟨vals.length - (j + 1), by omega, j + 1, R2, rfl, by omega, rfl, h1, h2, S2⟩
      refine idx_rdN S.drop.rd rfl hjl fun p3 _ hp3 => ?_
      have hp3 : rArg.el.rd h10 p3 vals[j] := hp3
      refine ld_agg hp3 (hExt.refl _) rfl fun cs hcs => ?_
      refine new_stR S rfl (size_rv hcs) (one_arg hcs) fun p4 h12 S12 => ?_
      have ecs := arr_arg hcs
      subst ecs
      refine ld_rawB (i := 2) (x := vals[j].n) S12 rfl rfl ?_
      refine mlk_rule (rdM_of (Sep.pull [_, _, _, _] S12)) ?_
      rw [hM]
      have hstep : (vals.take (j + 1)).filterMap (refF ids) = (vals.take j).filterMap (refF ids) ++ (refF ids vals[j]).toList := by
        rw [List.take_succ_eq_append_getElem hjl, List.filterMap_append, fm_one]
      have skip : refF ids vals[j] = none → k () h12 := fun hno => fin h12 R' hRl (fun r hr hr2 => by rw [hstep, hno, Option.toList_none, List.append_nil]; exact hR r hr hr2) S12.drop
      cases hat : atF ids vals[j].n with
      | none =>
        refine ⟨0, rfl, ?_⟩
        intro k1 hk1
        refine ifB_false rfl (hk1 _ _ fun _ => ifB_false rfl (skip ?_))
        unfold refF
        split
        · rw [hat]; rfl
        · rfl
      | some q =>
        obtain ⟨hq, eq⟩ := atF_some hat
        refine ⟨(q : Int), rfl, ?_⟩
        intro k1 hk1
        refine ifB_true rfl ?_
        refine ld_rawB (i := 0) (x := vals[j].kind) S12 rfl rfl ?_
        by_cases h5 : vals[j].kind = 5
        · have e5 : (vals[j].kind == 5) = true := by simp [h5]
          rw [e5]
          refine hk1 _ _ fun _ => ifB_true rfl ?_
          have href : refF ids vals[j] = some (q : Int) := by unfold refF; rw [if_pos h5, hat]; rfl
          have hiR : i < R'.length := by omega
          have hRi := hR i hiR hil
          rw [if_neg (by omega), if_pos rfl] at hRi
          have hlen : R'[i].length ≤ 1000 := by
            rw [hRi]
            exact Nat.le_trans (List.length_filterMap_le _ _) (by simp; omega)
          refine app_row (v := .int .i64 q) (x := (q : Int)) (Sep.pull [_, _, _] S12) hiR (fun _ => ⟨rfl, rfl⟩) rfl (by decide) (by simp only [si_Lint]; omega) (by omega) fun h13 S13 => ?_
          refine fin h13 _ (by rw [List.length_set]; exact hRl) (fun r hr hr2 => ?_) (Sep.drop (Sep.push [_, _, _] S13))
          rw [List.getElem_set]
          split
          · rename_i e
            subst e
            rw [if_neg (by omega), if_pos rfl, hstep, href, hRi]
            rfl
          · rename_i e
            rw [hR r (by simpa using hr) hr2, if_neg (fun h : r = i => e h.symm), if_neg (fun h : r = i => e h.symm)]
        · have e5 : (vals[j].kind == 5) = false := by simp [h5]
          rw [e5]
          refine hk1 _ _ fun _ => ifB_false rfl (skip ?_)
          unfold refF
          rw [if_neg h5]
    · have hjl : j = vals.length := by have hc : vals.length ≤ j := by rw [hxl] at hc; simpa using hc
                                       omega
      subst hjl
      refine ar_i64 (by omega) (by omega) ⟨ids.length - (i + 1), by omega, i + 1, R', rfl, by omega, rfl, hRl, fun r hr hr2 => ?_, S.drop.drop⟩
      rw [hR r hr hr2, List.take_length]
      by_cases e : r < i
      · rw [if_pos e, if_pos (by omega)]
      · rw [if_neg e]
        by_cases e2 : r = i
        · subst e2
          rw [if_pos rfl, if_pos (by omega), hvs]
        · rw [if_neg e2, if_neg (by omega)]
  · have hil : i = ids.length := by have hc : ¬ i < ids.length := by simpa using hc
                                    omega
    subst hil
    have e : R = graphF l ids := List.ext_getElem (by rw [hRl, graph_len]) fun r h1 h2 => by
      rw [hR r h1 (by omega), if_pos (by omega)]
      simp [graphF]
    rw [e] at S
    exact ⟨g, rfl, S.swap.drop⟩
end Go.Proofs.Ytncbpalncgcoaaa
