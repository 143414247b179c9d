/-
  slices.Sorted(maps.Keys(m)) at a map keyed by strings.
-/
import Derived.Test.YtojdbliehgejbaaDoorGen
import Derived.Test.YtojdbliehgejbaaDoorFwBox
import Derived.Test.YtojdbliehgejbaaDoorPlSort
import Derived.Test.YtojdbliehgejbaaDoorLayC
import Derived.Shelf.SlIter.Nil
import Derived.Shelf.SortM.Plain
import Derived.Shelf.SortM.SortNone
import Derived.Test.YtojdbliehgejbaaDoorFwVst
import Derived.Test.YtojdbliehgejbaaDoorFwMapS
import Derived.Test.YtojdbliehgejbaaDoorFwRange
import Derived.Test.YtojdbliehgejbaaDoorPlLive
import Derived.Test.YtojdbliehgejbaaDoorFnFunc
namespace Go.Proofs.YtojdbliehgejbaaDoor
open Go.Fw Go.Pl.Set Go.WideElems

theorem keys_own {h : Heap} {m : Option Nat} :
    ACalls Tryd.prog F_maps_Keys_1 [.map m] h (fun v h' => ∃ b, v = .func (.func 67) #[] #[.pointer (some ⟨b, 0, none⟩)] ∧ Fw.Sep h h' [rawB ⟨b, 0, none⟩ #[.map m]]) := by
  refine maps_Keys_1_of ?_
  unfold maps_Keys_1
  refine new_rawB (Sep.start h) fun p h1 o1 S1 => ?_
  obtain ⟨f, _, h2, h3, _⟩ := S1.get
  obtain ⟨b, o, s⟩ := p
  simp only at h2 h3
  subst h2 h3
  exact ⟨b, rfl, S1⟩

theorem sortsD (m : Nat) : AnyZ.SortsIn Tryd.prog laySorted_ren Fence.wide m :=
  ⟨fun blk off cap ss W hH hblk hsz => callsIn_wide.2 (AnyM.slices_Sort_string laySort blk off cap ss W hH hblk hsz),
   fun p cap W => callsIn_wide.2 (AnyM.slices_Sort_string_none laySort p cap W)⟩

def vfB : Bool → Value := fun b => .bool b
theorem und9 : Tryd.prog.underlying 9 = some .string := by kernel_rfl
theorem und4b : Tryd.prog.underlying 4 = some .bool := by kernel_rfl

theorem sorted_calls {h : Heap} {L : List As} {h0 : Heap} {p b : Nat} {l : List (ByteArray × Bool)} (S : Fw.Sep h0 h (ownM vfB (some b) l :: L)) (hp : p < h.size) (hc : hcell h ⟨p, 0, none⟩ = some (.map (some b))) (hn : l.length ≤ 1000000)
    (hid : ∀ x ∈ l, x.1.size ≤ maxLen) :
    ACalls Tryd.prog F_slices_Sorted [.func (.func 67) #[] #[.pointer (some ⟨p, 0, none⟩)]] h (fun v h' => ∃ s : Sl, v = s.v ∧ Fw.Sep h h' [ownSl si_Lstring eStr s (sortB (l.map Prod.fst))]) := by
  intro w hw
  obtain ⟨f, b', es, clock, hb1, hb, he, hst, _⟩ := S.get
  injection hb1 with hb1
  subst hb1
  have hlen : es.size = l.length := by have := congrArg List.length he; simpa using this
  have hread : ∀ x ∈ es.toList, ∃ k : ByteArray, rd Tryd.prog 9 (plainElem (H := Unit) Tryd.prog 4) x = some (.string (bl k), .lit (.bool (match x.val with | .bool t => t | _ => false))) ∧ x.key = .string k := fun x hx => by
    have hm : (x.key, x.val) ∈ l.map fun p => (Value.string p.1, vfB p.2) := he ▸ List.mem_map.2 ⟨x, hx, rfl⟩
    obtain ⟨q, hq, hqe⟩ := List.mem_map.1 hm
    simp only [Prod.mk.injEq] at hqe
    have hr := hid q hq
    refine ⟨q.1, ?_, hqe.1.symm⟩
    have hk : keyOf Tryd.prog 9 x.key = some (.string (bl q.1)) := by
      rw [← hqe.1]
      simp [keyOf, mapKey, hr, bl]
    obtain ⟨xk, xv, xb⟩ := x
    simp only at hqe hk
    have hv : plainElem (H := Unit) Tryd.prog 4 xv = some (.lit (.bool q.2), []) := by rw [← hqe.2]; exact plainElem_bool und4b q.2
    rw [rd_mk hk hv, ← hqe.2]
    rfl
  have hfit : Fit Tryd.prog 9 (plainElem (H := Unit) Tryd.prog 4) es clock := ⟨by rw [hlen]; simp only [maxLen]; omega, hst, fun x hx => by obtain ⟨k, hk, _⟩ := hread x hx; exact ⟨_, hk⟩⟩
  have hown : w.ownsMap Tryd.prog 9 (plainElem (H := Unit) Tryd.prog 4) b es.size (.map ((es.toList.map (rg Tryd.prog 9 (plainElem (H := Unit) Tryd.prog 4))).foldr DataW.insert [])) :=
    ⟨es, clock, by rw [hw]; exact hb, hfit, Nat.le_refl _, rfl⟩
  generalize hD : (DataW.map ((es.toList.map (rg Tryd.prog 9 (plainElem (H := Unit) Tryd.prog 4))).foldr DataW.insert [])) = D0 at hown
  have hsize : Maps.size D0 = l.length := by
    rw [← hD, Maps.size_eq, Go.length_sorted]
    simp [hlen]
  have hkeys : (strKeys D0).Perm ((l.map Prod.fst).map bl) := by
    rw [← hD]
    show (((es.toList.map (rg Tryd.prog 9 (plainElem (H := Unit) Tryd.prog 4))).foldr DataW.insert []).map fun p => _root_.Go.strOf p.1).Perm _
    refine ((Go.WideShapes.sorted_perm _).map _).trans ?_
    rw [List.map_map]
    have : es.toList.map ((fun p => _root_.Go.strOf p.1) ∘ rg Tryd.prog 9 (plainElem (H := Unit) Tryd.prog 4)) = (l.map Prod.fst).map bl := by
      have h1 : es.toList.map ((fun p => _root_.Go.strOf p.1) ∘ rg Tryd.prog 9 (plainElem (H := Unit) Tryd.prog 4)) = (es.toList.map fun e => (e.key, e.val)).map fun kv => match kv.1 with | .string a => bl a | _ => [] := by
        rw [List.map_map]
        refine List.map_congr_left fun x hx => ?_
        obtain ⟨k, hk, hkey⟩ := hread x hx
        simp only [Function.comp, rg_of hk, hkey, _root_.Go.strOf]
      rw [h1]
      unfold Ents at he
      rw [he, List.map_map, List.map_map]
      exact List.map_congr_left fun x _ => rfl
    rw [this]
  have hseq : SeqGives Fence.wide 2 Tryd.prog 67 #[.pointer (some ⟨p, 0, none⟩)] encStr (fun ss => ss.Perm (strKeys D0)) (Maps.size D0) w :=
    AnyZ.keys_gives (ρ := layKeys_ren) { layKeys with } Fence.wide _ trivial rfl (by omega) p b _ D0 w (by rw [hw]; exact hp) (by rw [cell_eq, hw]; exact hc) hown
  have cS := AnyZ.sorted_in laySorted Fence.wide 5 trivial trivial trivial trivial rfl (by omega) (sortsD _) (enters_of Tryd.func52 (by kernel_rfl) rfl) 67 #[.pointer (some ⟨p, 0, none⟩)] trivial (enters_of Tryd.func67 (by kernel_rfl) rfl) _ _ (by rw [hsize]; simp only [maxLen]; omega) (by rw [hsize]; omega) w hseq
  change CallsIn _ _ Tryd.prog 28 _ _ _ at cS
  refine (callsIn_wide.1 cS).mono ?_
  rintro e w' ⟨v, ss, rfl, hS, hrow, hnil, hbel⟩
  have hss : ss.length = l.length := by rw [hS.length_eq, hkeys.length_eq]; simp
  refine ⟨v, rfl, ⟨hbel.os, hbel.tape, hbel.output⟩, ?_⟩
  have hold : Old h w'.heap := by
    subst hw
    exact ⟨hbel.size, fun k hk => hbel.block k hk⟩
  have hml : (ss.mergeSort fun x y => decide (x ≤ y)).length = ss.length := List.length_mergeSort _
  have hperm := sort_perm (hS.trans hkeys)
  have hrowv : (ss.mergeSort fun x y => decide (x ≤ y)).map encStr = (sortB (l.map Prod.fst)).map fun s => Value.string s := by
    unfold sortB
    rw [hperm]
    simp only [List.map_map]
    rfl
  have hsl : (sortB (l.map Prod.fst)).length = ss.length := by
    unfold sortB
    rw [List.length_map, ← hperm, hml]
  rcases hrow.2 with ⟨h5, h6⟩ | ⟨g, cap, cur, h5, h6, h7, h8, h9, h10, h11⟩
  · refine ⟨⟨none, 0, 0⟩, h5, ⟨hold, fun A hA => by rw [List.mem_singleton.1 hA]; exact loc_ownSl, [], ⟨[], [], rfl, ?_, rfl⟩, by simp, by simp⟩⟩
    have : sortB (l.map Prod.fst) = [] := List.eq_nil_of_length_eq_zero (by omega)
    rw [this]
    exact ownSl_nil si_Lstring eStr rfl _
  · refine ⟨⟨some ⟨g, 0, none⟩, ss.length, cap⟩, h5, ⟨hold, fun A hA => by rw [List.mem_singleton.1 hA]; exact loc_ownSl, [g], ⟨[g], [], rfl, ⟨rfl, (sortB (l.map Prod.fst)).map (fun n => Value.string n), [], ?_, hsl.symm, by omega, Row.of_cells _, rfl⟩, rfl⟩, by simp, fun z hz => ?_⟩⟩
    · refine hOwn_iff.2 ⟨?_, .inr ⟨g, cur, rfl, h7, h8, h9, h10, by rw [← hrowv]; exact h11⟩⟩
      rw [List.length_map, hsl]
      exact (Nat.mul_one _).symm
    · rw [List.mem_singleton] at hz
      subst hz
      exact ⟨by rw [← hw]; exact h6, (Array.getElem?_eq_some_iff.1 h7).1⟩

theorem names_calls {h0 h : Heap} {X : List As} {b : Nat} {M : List (ByteArray × Bool)} (S : Fw.Sep h0 h (ownM vfB (some b) M :: X)) (hn : M.length ≤ 1000000) (hid : ∀ x ∈ M, x.1.size ≤ maxLen) :
    ACalls Tryd.prog F_live_set_names [.map (some b)] h (fun v h' => ∃ s : Sl, v = s.v ∧ Fw.Sep h h' [ownSl si_Lstring eStr s (sortB (M.map Prod.fst))]) := by
  refine live_set_names_of ?_
  unfold live_set_names
  refine keys_own.mono ?_
  rintro u h1 ⟨b', rfl, S1⟩
  refine ⟨_, rfl, ?_⟩
  have S2 := S.frame S1
  have hcl := (rawB_cell S2).2 0
  have hblk : b' < h1.size := by
    obtain ⟨f, ⟨f1, f2, rfl, ⟨rfl, _⟩, _⟩, _, hbd⟩ := S2.owns
    exact (hbd b' (by simp)).2
  refine (sorted_calls (Sep.drop (A := rawB ⟨b', 0, none⟩ #[.map (some b)]) S2) hblk (by rw [Go.Fw.Addr.add_zero'] at hcl; exact hcl) hn hid).mono ?_
  rintro u h2 ⟨s, rfl, S3⟩
  refine ⟨_, rfl, s, rfl, ⟨S1.old.trans S3.old, S3.all, ?_⟩⟩
  obtain ⟨f, q1, q2, q3⟩ := S3.owns
  exact ⟨f, q1, q2, fun z hz => ⟨Nat.le_trans S1.old.size (q3 z hz).1, (q3 z hz).2⟩⟩

end Go.Proofs.YtojdbliehgejbaaDoor

/-
  live: sets of variables.
-/
namespace Go.Proofs.YtojdbliehgejbaaDoor
open Go.Fw Go.Pl.Api Go.Pl.Set Go.Pl.Live

theorem mup_set {h0 h : Heap} {X : List As} {b : Nat} {M : List (ByteArray × Bool)} {P : VSet} {k : ByteArray} {K : Heap → Prop} (S : Fw.Sep h0 h (ownM vfB (some b) M :: X)) (hM : IsSet M P)
    (hK : ∀ h' M', hExt h h' → IsSet M' (fun v => v = k ∨ P v) → Fw.Sep h0 h' (ownM vfB (some b) M' :: X) → K h') : mup .string (some b) (.string k) (.bool true) h K :=
  mup_mono (mup_ext (mup_rule (k := k) (x := true) (K := fun h' => Fw.Sep h0 h' (ownM vfB (some b) (aput k true M) :: X)) S rfl fun _ S2 => S2)) fun h' ⟨S2, e2⟩ => hK h' _ e2 (hM.put k) S2

theorem arg_calls {h0 h : Heap} {X : List As} {b : Nat} {M : List (ByteArray × Bool)} {P : VSet} {ca : Array Value} {a : MArg} (S : Fw.Sep h0 h (ownM vfB (some b) M :: X)) (hM : IsSet M P) (ha : ca.toList = argC a) :
    ACalls Tryd.prog F_live_set_arg [.map (some b), .agg ca] h (fun u h' => u = .tuple #[] ∧ hExt h h' ∧ ∃ M', IsSet M' (fun v => argV a v ∨ P v) ∧ Fw.Sep h0 h' (ownM vfB (some b) M' :: X)) := by
  refine live_set_arg_of ?_
  unfold live_set_arg
  refine new_rv (rv_arg.2 ha) fun p h1 o1 hp => ?_
  refine ld_int (fld_argKind.rd hp) (hExt.refl _) ?_
  refine ifB_intro (fun hc => ?_) (fun hc => ?_)
  · have hc : a.kind = 1 := by simpa using hc
    refine ld_str (fld_argS'.rd hp) (hExt.refl _) ?_
    refine mup_set (S.grow o1) hM fun h2 M' e2 hM' S2 => ⟨rfl, ext_tr o1.ext e2, M', hM'.iff fun v => ?_, S2⟩
    unfold argV
    constructor
    · rintro (h | h)
      · exact .inl ⟨hc, h.symm⟩
      · exact .inr h
    · rintro (⟨_, h⟩ | h)
      · exact .inl h.symm
      · exact .inr h
  · have hc : ¬ a.kind = 1 := by simpa using hc
    exact ⟨rfl, o1.ext, M, hM.iff fun v => ⟨fun h => .inr h, fun h => h.elim (fun h => absurd h.1 hc) id⟩, S.grow o1⟩

theorem take_ex {α : Type} {l : List α} {i : Nat} (hi : i < l.length) {Q : α → Prop} : (∃ a ∈ l.take (i + 1), Q a) ↔ Q l[i] ∨ ∃ a ∈ l.take i, Q a := by
  rw [List.take_succ_eq_append_getElem hi]
  constructor
  · rintro ⟨a, ha, hq⟩
    rcases List.mem_append.1 ha with h | h
    · exact .inr ⟨a, h, hq⟩
    · simp at h; subst h; exact .inl hq
  · rintro (h | ⟨a, ha, hq⟩)
    · exact ⟨l[i], List.mem_append.2 (.inr (List.mem_singleton.2 rfl)), h⟩
    · exact ⟨a, List.mem_append.2 (.inl ha), hq⟩

set_option maxHeartbeats 1000000 in
theorem instr_calls {h0 h : Heap} {X : List As} {b : Nat} {M : List (ByteArray × Bool)} {P : VSet} {ci : Array Value} {x : MInstr} (S : Fw.Sep h0 h (ownM vfB (some b) M :: X)) (hM : IsSet M P) (hx : rInstr.rv h ci.toList x) :
    ACalls Tryd.prog F_live_set_instr [.map (some b), .agg ci] h (fun u h' => u = .tuple #[] ∧ hExt h h' ∧ ∃ M', IsSet M' (fun v => usesV x v ∨ P v) ∧ Fw.Sep h0 h' (ownM vfB (some b) M' :: X)) := by
  refine live_set_instr_of ?_
  unfold live_set_instr
  refine new_rv hx fun p h1 o1 hp => ?_
  refine ld_lst (fld_iArgs.rd hp) (hExt.refl _) fun la hla => ?_
  have hlal := hla.lenEq
  have hlab := hla.bound
  refine loop_intro (fun m (q : Int) h' => ∃ i : Nat, q = i ∧ i ≤ x.args.length ∧ m = x.args.length - i ∧ hExt h1 h' ∧ ∃ M', IsSet M' (fun v => (∃ a ∈ x.args.take i, argV a v) ∨ P v) ∧ Fw.Sep h0 h' (ownM vfB (some b) M' :: X)) x.args.length
    ⟨0, rfl, by omega, by omega, hExt.refl _, M, hM.iff fun v => by simp, S.grow o1⟩ ?_
  clear S hM M
  rintro _ _ _ h2 ⟨i, rfl, hi, rfl, e2, M, hM, S⟩
  refine ifB_intro (fun hc => ?_) (fun hc => ?_)
  · have hil : i < x.args.length := by rw [hlal] at hc; simpa using hc
    refine idx_rdN hla rfl hil fun p1 _ hp1 => ld_agg hp1 e2 rfl fun c1 hc1 => ?_
    refine new_stX hc1 e2 rfl rfl fun p2 h4 o4 hb2 => ?_
    refine ld_aggX hb2 rfl fun c2 hc2 => ?_
    refine (arg_calls (a := x.args[i]) (S.grow o4) hM (rv_arg.1 hc2)).mono ?_
    rintro u h5 ⟨rfl, e5, M', hM', S5⟩
    refine ⟨rfl, ar_i64 (by omega) (by omega) ⟨x.args.length - (i + 1), by omega, i + 1, rfl, by omega, rfl, ext_tr e2 (ext_tr o4.ext e5), M', hM'.iff fun v => ?_, S5⟩⟩
    rw [take_ex hil, or_assoc]
  have hil : x.args.length ≤ i := by rw [hlal] at hc; simpa using hc
  rw [List.take_of_length_le hil] at hM
  clear hc hi hil i
  refine ld_lst (fld_iStands.rd hp) e2 fun lt hlt => ?_
  have hltl := hlt.lenEq
  have hltb := hlt.bound
  refine loop_intro (fun m (q : Int) h' => ∃ i : Nat, q = i ∧ i ≤ x.stands.length ∧ m = x.stands.length - i ∧ hExt h1 h' ∧ ∃ M', IsSet M' (fun v => (∃ t ∈ x.stands.take i, ∃ b ∈ t.vars, argV b.a v) ∨ (∃ a ∈ x.args, argV a v) ∨ P v) ∧ Fw.Sep h0 h' (ownM vfB (some b) M' :: X)) x.stands.length
    ⟨0, rfl, by omega, by omega, e2, M, hM.iff fun v => by simp, S⟩ ?_
  clear S hM M e2
  rintro _ _ _ h6 ⟨i, rfl, hi, rfl, e6, M, hM, S⟩
  refine ifB_intro (fun hc => ?_) (fun hc => ?_)
  · have hil : i < x.stands.length := by rw [hltl] at hc; simpa using hc
    refine idx_rdN hlt rfl hil fun p3 _ hp3 => ld_agg hp3 e6 rfl fun c4 hc4 => ?_
    refine new_stX hc4 e6 rfl rfl fun p4 h8 o8 hb4 => ?_
    refine ld_lstX (fld_stVars.bx hb4) fun lv hlv => ?_
    have hlvl := hlv.lenEq
    have hlvb := hlv.bound
    have e8 := ext_tr e6 o8.ext
    refine loop_intro (fun m (q : Int) h' => ∃ j : Nat, q = j ∧ j ≤ x.stands[i].vars.length ∧ m = x.stands[i].vars.length - j ∧ hExt h1 h' ∧ ∃ M', IsSet M' (fun v => (∃ b ∈ x.stands[i].vars.take j, argV b.a v) ∨ (∃ t ∈ x.stands.take i, ∃ b ∈ t.vars, argV b.a v) ∨ (∃ a ∈ x.args, argV a v) ∨ P v) ∧ Fw.Sep h0 h' (ownM vfB (some b) M' :: X)) x.stands[i].vars.length
      ⟨0, rfl, by omega, by omega, e8, M, hM.iff fun v => by simp, S.grow o8⟩ ?_
    clear S hM M
    rintro _ _ _ h9 ⟨j, rfl, hj, rfl, e9, M, hM, S⟩
    refine ifB_intro (fun hc => ?_) (fun hc => ?_)
    · have hjl : j < x.stands[i].vars.length := by rw [hlvl] at hc; simpa using hc
      refine idx_rdN hlv rfl hjl fun p5 _ hp5 => ld_agg hp5 e9 rfl fun c6 hc6 => ?_
      refine new_stX hc6 e9 rfl rfl fun p6 h11 o11 hb6 => ?_
      refine ld_aggX (fld_bindA.bx hb6) rfl fun c7 hc7 => ?_
      refine (arg_calls (a := x.stands[i].vars[j].a) (S.grow o11) hM (rv_arg.1 hc7)).mono ?_
      rintro u h12 ⟨rfl, e12, M', hM', S12⟩
      refine ⟨rfl, ar_i64 (by omega) (by omega) ⟨x.stands[i].vars.length - (j + 1), by omega, j + 1, rfl, by omega, rfl, ext_tr e9 (ext_tr o11.ext e12), M', hM'.iff fun v => ?_, S12⟩⟩
      rw [take_ex hjl, or_assoc]
    · have hjl : x.stands[i].vars.length ≤ j := by rw [hlvl] at hc; simpa using hc
      rw [List.take_of_length_le hjl] at hM
      refine ar_i64 (by omega) (by omega) ⟨x.stands.length - (i + 1), by omega, i + 1, rfl, by omega, rfl, e9, M, hM.iff fun v => ?_, S⟩
      rw [take_ex hil, or_assoc]
  have hil : x.stands.length ≤ i := by rw [hltl] at hc; simpa using hc
  rw [List.take_of_length_le hil] at hM
  clear hc hi hil i
  refine ld_lst (fld_iObjs.rd hp) e6 fun lo hlo => ?_
  have hlol := hlo.lenEq
  have hlob := hlo.bound
  refine loop_intro (fun m (q : Int) h' => ∃ i : Nat, q = i ∧ i ≤ x.objs.length ∧ m = x.objs.length - i ∧ hExt h1 h' ∧ ∃ M', IsSet M' (fun v => (∃ o ∈ x.objs.take i, ∃ a ∈ o.vals, argV a v) ∨ (∃ t ∈ x.stands, ∃ b ∈ t.vars, argV b.a v) ∨ (∃ a ∈ x.args, argV a v) ∨ P v) ∧ Fw.Sep h0 h' (ownM vfB (some b) M' :: X)) x.objs.length
    ⟨0, rfl, by omega, by omega, e6, M, hM.iff fun v => by simp, S⟩ ?_
  clear S hM M e6
  rintro _ _ _ h13 ⟨i, rfl, hi, rfl, e13, M, hM, S⟩
  refine ifB_intro (fun hc => ?_) (fun hc => ?_)
  · have hil : i < x.objs.length := by rw [hlol] at hc; simpa using hc
    refine idx_rdN hlo rfl hil fun p7 _ hp7 => ld_agg hp7 e13 rfl fun c9 hc9 => ?_
    refine new_stX hc9 e13 rfl rfl fun p8 h15 o15 hb8 => ?_
    refine ld_lstX (fld_virtVals.bx hb8) fun lv hlv => ?_
    have hlvl := hlv.lenEq
    have hlvb := hlv.bound
    have e15 := ext_tr e13 o15.ext
    refine loop_intro (fun m (q : Int) h' => ∃ j : Nat, q = j ∧ j ≤ x.objs[i].vals.length ∧ m = x.objs[i].vals.length - j ∧ hExt h1 h' ∧ ∃ M', IsSet M' (fun v => (∃ a ∈ x.objs[i].vals.take j, argV a v) ∨ (∃ o ∈ x.objs.take i, ∃ a ∈ o.vals, argV a v) ∨ (∃ t ∈ x.stands, ∃ b ∈ t.vars, argV b.a v) ∨ (∃ a ∈ x.args, argV a v) ∨ P v) ∧ Fw.Sep h0 h' (ownM vfB (some b) M' :: X)) x.objs[i].vals.length
      ⟨0, rfl, by omega, by omega, e15, M, hM.iff fun v => by simp, S.grow o15⟩ ?_
    clear S hM M
    rintro _ _ _ h16 ⟨j, rfl, hj, rfl, e16, M, hM, S⟩
    refine ifB_intro (fun hc => ?_) (fun hc => ?_)
    · have hjl : j < x.objs[i].vals.length := by rw [hlvl] at hc; simpa using hc
      refine idx_rdN hlv rfl hjl fun p9 _ hp9 => ld_agg hp9 e16 rfl fun c11 hc11 => ?_
      refine new_stX hc11 e16 rfl rfl fun p10 h18 o18 hb10 => ?_
      refine ld_aggX hb10 rfl fun c12 hc12 => ?_
      refine (arg_calls (a := x.objs[i].vals[j]) (S.grow o18) hM (rv_arg.1 hc12)).mono ?_
      rintro u h19 ⟨rfl, e19, M', hM', S19⟩
      refine ⟨rfl, ar_i64 (by omega) (by omega) ⟨x.objs[i].vals.length - (j + 1), by omega, j + 1, rfl, by omega, rfl, ext_tr e16 (ext_tr o18.ext e19), M', hM'.iff fun v => ?_, S19⟩⟩
      rw [take_ex hjl, or_assoc]
    · have hjl : x.objs[i].vals.length ≤ j := by rw [hlvl] at hc; simpa using hc
      rw [List.take_of_length_le hjl] at hM
      refine ar_i64 (by omega) (by omega) ⟨x.objs.length - (i + 1), by omega, i + 1, rfl, by omega, rfl, e16, M, hM.iff fun v => ?_, S⟩
      rw [take_ex hil, or_assoc]
  have hil : x.objs.length ≤ i := by rw [hlol] at hc; simpa using hc
  rw [List.take_of_length_le hil] at hM
  refine ⟨rfl, ext_tr o1.ext e13, M, hM.iff fun v => ?_, S⟩
  unfold usesV
  constructor
  · rintro (h | h | h | h)
    · exact .inl (.inr (.inr h))
    · exact .inl (.inr (.inl h))
    · exact .inl (.inl h)
    · exact .inr h
  · rintro ((h | h | h) | h)
    · exact .inr (.inr (.inl h))
    · exact .inr (.inl h)
    · exact .inl h
    · exact .inr (.inr (.inr h))

theorem over_calls {h0 h : Heap} {X : List As} {b : Nat} {M : List (ByteArray × Bool)} {P : VSet} {ci : Array Value} {x : MInstr} (S : Fw.Sep h0 h (ownM vfB (some b) M :: X)) (hM : IsSet M P) (hx : rInstr.rv h ci.toList x) :
    ACalls Tryd.prog F_live_set_over [.map (some b), .agg ci] h (fun u h' => u = .tuple #[] ∧ hExt h h' ∧ ∃ M', IsSet M' (overV x P) ∧ Fw.Sep h0 h' (ownM vfB (some b) M' :: X)) := by
  refine live_set_over_of ?_
  unfold live_set_over
  refine new_rv hx fun p h1 o1 hp => ?_
  intro k hk
  have main : ∀ h2 M2, hExt h1 h2 → IsSet M2 (fun v => P v ∧ (x.dst = ⟨#[]⟩ ∨ v ≠ x.dst)) → Fw.Sep h0 h2 (ownM vfB (some b) M2 :: X) → k () h2 := fun h2 M2 e2 hM2 S2 => hk _ _ fun _ => by
    refine ld_agg hp e2 rfl fun c hc => ?_
    refine (instr_calls S2 hM2 (rInstr.ext hc e2)).mono ?_
    rintro u h3 ⟨rfl, e3, M3, hM3, S3⟩
    exact ⟨rfl, rfl, ext_tr o1.ext (ext_tr e2 e3), M3, hM3, S3⟩
  refine ld_str (fld_iDst.rd hp) (hExt.refl _) ?_
  rw [toList_beq]
  by_cases e : x.dst = ⟨#[]⟩
  · rw [decide_eq_true e]
    exact ifB_false rfl (main h1 M (hExt.refl _) (hM.iff fun v => ⟨fun h => ⟨h, .inl e⟩, fun h => h.1⟩) (S.grow o1))
  · rw [decide_eq_false e]
    refine ifB_true rfl ?_
    refine ld_str (fld_iDst.rd hp) (hExt.refl _) ?_
    refine mdl_mono (mdl_ext (mdl_rule (k := x.dst) (K := fun h' => Fw.Sep h0 h' (ownM vfB (some b) (adel x.dst M) :: X)) (S.grow o1) fun _ S2 => S2)) fun h' ⟨S2, e2⟩ => ?_
    exact main h' _ e2 ((hM.del x.dst).iff fun v => ⟨fun h => ⟨h.1, .inr h.2⟩, fun h => ⟨h.1, h.2.resolve_left e⟩⟩) S2

end Go.Proofs.YtojdbliehgejbaaDoor

/-
  live: ways into blocks, ends.
-/
namespace Go.Proofs.YtojdbliehgejbaaDoor
open Go.Fw Go.Pl.Api Go.Pl.Set Go.Pl.Live

set_option maxHeartbeats 1000000 in
theorem into_calls {h0 h : Heap} {X : List As} {b c : Nat} {M N : List (ByteArray × Bool)} {P I : VSet} {cb : Array Value} {B : MBlock} {fr : ByteArray} (S : Fw.Sep h0 h (ownM vfB (some b) M :: ownM vfB (some c) N :: X)) (hM : IsSet M P) (hN : IsSet N I) (hB : rBlock.rv h cb.toList B) :
    ACalls Tryd.prog F_live_set_into [.map (some b), .agg cb, .map (some c), .string fr] h
      (fun u h' => u = .tuple #[] ∧ hExt h h' ∧ ∃ M', IsSet M' (fun v => intoV B fr I v ∨ P v) ∧ Fw.Sep h0 h' (ownM vfB (some b) M' :: ownM vfB (some c) N :: X)) := by
  refine live_set_into_of ?_
  unfold live_set_into
  refine new_rv hB fun p h1 o1 hp => ?_
  refine mkm_rule (vf := vfB) (S.grow o1) fun m h2 o2 S2 => ?_
  obtain ⟨_, m, _, _, rfl, _⟩ := S2.get
  refine ld_lst (fld_phis.rd hp) o2.ext fun la hla => ?_
  have hlal := hla.lenEq
  have hlab := hla.bound
  refine loop_intro (fun n (q : Int) h' => ∃ i : Nat, q = i ∧ i ≤ B.phis.length ∧ n = B.phis.length - i ∧ hExt h1 h' ∧ ∃ D M', IsSet D (fun v => ∃ p ∈ B.phis.take i, p.dst = v) ∧ IsSet M' (fun v => (∃ p ∈ B.phis.take i, ∃ j ∈ p.ins, j.block = fr ∧ argV j.a v) ∨ P v) ∧
      Fw.Sep h0 h' (ownM vfB (some m) D :: ownM vfB (some b) M' :: ownM vfB (some c) N :: X)) B.phis.length
    ⟨0, rfl, by omega, by omega, o2.ext, [], M, IsSet.nil.iff fun v => by simp, hM.iff fun v => by simp, S2⟩ ?_
  clear S S2 hM M
  rintro _ _ _ h3 ⟨i, rfl, hi, rfl, e3, D, M, hD, hM, S⟩
  refine ifB_intro (fun hc => ?_) (fun hc => ?_)
  · have hil : i < B.phis.length := by rw [hlal] at hc; simpa using hc
    refine idx_rdN hla rfl hil fun p1 _ hp1 => ld_agg hp1 e3 rfl fun c1 hc1 => ?_
    refine new_stX hc1 e3 rfl rfl fun p2 h5 o5 hb2 => ?_
    refine ld_strX (fld_dst.bx hb2) ?_
    refine mup_set (S.grow o5) hD fun h6 D' e6 hD' S6 => ?_
    have hb6 := RV.bx_ext hb2 e6
    refine ld_lstX (fld_ins.bx hb6) fun li hli => ?_
    have hlil := hli.lenEq
    have hlib := hli.bound
    have e16 := ext_tr e3 (ext_tr o5.ext e6)
    refine loop_intro (fun n (q : Int) h' => ∃ j : Nat, q = j ∧ j ≤ B.phis[i].ins.length ∧ n = B.phis[i].ins.length - j ∧ hExt h1 h' ∧ ∃ M', IsSet M' (fun v => (∃ z ∈ B.phis[i].ins.take j, z.block = fr ∧ argV z.a v) ∨ (∃ p ∈ B.phis.take i, ∃ j ∈ p.ins, j.block = fr ∧ argV j.a v) ∨ P v) ∧
        Fw.Sep h0 h' (ownM vfB (some b) M' :: ownM vfB (some m) D' :: ownM vfB (some c) N :: X)) B.phis[i].ins.length
      ⟨0, rfl, by omega, by omega, e16, M, hM.iff fun v => by simp, S6.swap⟩ ?_
    clear S S6 hM M
    rintro _ _ _ h7 ⟨j, rfl, hj, rfl, e7, M, hM, S⟩
    refine ifB_intro (fun hc => ?_) (fun hc => ?_)
    · have hjl : j < B.phis[i].ins.length := by rw [hlil] at hc; simpa using hc
      intro k hk
      refine idx_rdN hli rfl hjl fun p3 _ hp3 => ld_agg hp3 e7 rfl fun c4 hc4 => ?_
      refine new_stX hc4 e7 rfl rfl fun p4 h10 o10 hb4 => ?_
      have next : ∀ h' M', hExt h10 h' → IsSet M' (fun v => (B.phis[i].ins[j].block = fr ∧ argV B.phis[i].ins[j].a v) ∨ (∃ z ∈ B.phis[i].ins.take j, z.block = fr ∧ argV z.a v) ∨ (∃ p ∈ B.phis.take i, ∃ j ∈ p.ins, j.block = fr ∧ argV j.a v) ∨ P v) →
          Fw.Sep h0 h' (ownM vfB (some b) M' :: ownM vfB (some m) D' :: ownM vfB (some c) N :: X) → k () h' := fun h' M' e' hM' S' => hk _ _ fun _ => ar_i64 (by omega) (by omega) ⟨B.phis[i].ins.length - (j + 1), by omega, j + 1, rfl, by omega, rfl, ext_tr e7 (ext_tr o10.ext e'), M', hM'.iff fun v => by rw [take_ex hjl, or_assoc], S'⟩
      refine ld_strX (fld_inblock.bx hb4) ?_
      rw [toList_beq]
      by_cases e : B.phis[i].ins[j].block = fr
      · rw [decide_eq_true e]
        refine ifB_true rfl ?_
        refine ld_aggX (fld_inA.bx hb4) rfl fun c6 hc6 => ?_
        refine (arg_calls (a := B.phis[i].ins[j].a) (S.grow o10) hM (rv_arg.1 hc6)).mono ?_
        rintro u h11 ⟨rfl, e11, M', hM', S11⟩
        exact ⟨rfl, next h11 M' e11 (hM'.iff fun v => ⟨fun h => h.imp (fun h => ⟨e, h⟩) id, fun h => h.imp (fun h => h.2) id⟩) S11⟩
      · rw [decide_eq_false e]
        exact ifB_false rfl (next h10 M (hExt.refl _) (hM.iff fun v => ⟨fun h => .inr h, fun h => h.resolve_left fun h => e h.1⟩) (S.grow o10))
    · have hjl : B.phis[i].ins.length ≤ j := by rw [hlil] at hc; simpa using hc
      rw [List.take_of_length_le hjl] at hM
      refine ar_i64 (by omega) (by omega) ⟨B.phis.length - (i + 1), by omega, i + 1, rfl, by omega, rfl, e7, D', M, hD'.iff fun v => ?_, hM.iff fun v => ?_, S.swap⟩
      · rw [take_ex hil]
        exact or_congr eq_comm Iff.rfl
      · rw [take_ex hil, or_assoc]
  have hil : B.phis.length ≤ i := by rw [hlal] at hc; simpa using hc
  rw [List.take_of_length_le hil] at hM hD
  clear hc hi hil i
  refine rng_rule S.rot3 fun r h12 o12 S12 => ?_
  refine loop_intro (fun n (_ : Unit) h' => hExt h1 h' ∧ ∃ V M', n = N.length - V.length ∧ (∀ v ∈ V, v ∈ N.map Prod.fst) ∧ IsSet M' (fun v => (v ∈ V ∧ ¬ madeV B v) ∨ phiIn B fr v ∨ P v) ∧
      Fw.Sep h0 h' (ownR vfB r c N V :: ownM vfB (some m) D :: ownM vfB (some b) M' :: X)) N.length
    ⟨ext_tr e3 o12.ext, [], M, by simp, by simp, hM.iff fun v => by simp [phiIn], S12⟩ ?_
  clear S S12 hM M
  rintro _ _ _ h13 ⟨e13, V, M, rfl, hV, hM, S⟩
  refine nxt_rule S (fun hall => ?_) fun k x h14 hkx hkV hlt e14 S14 => ?_
  · refine ⟨rfl, ext_tr o1.ext e13, M, hM.iff fun v => ?_, S.ofR.rot3.rot3.swap.drop |> fun _ => ?_⟩
    · unfold intoV
      have : v ∈ V ↔ I v := by
        rw [← hN.mem]
        exact ⟨hV v, fun h => by
          obtain ⟨p, hp, rfl⟩ := List.mem_map.1 h
          exact hall p hp⟩
      rw [this]
      constructor
      · rintro (h | h | h)
        · exact .inl (.inr h)
        · exact .inl (.inl h)
        · exact .inr h
      · rintro ((h | h) | h)
        · exact .inr (.inl h)
        · exact .inl h
        · exact .inr (.inr h)
    · exact S.ofR.swap.drop.swap
  refine ent_rule S14 fun x' _ => ?_
  refine mlk_rule (Sep.rdM S14.swap) ?_
  have hlen : (V ++ [k]).length = V.length + 1 := by simp
  have hV' : ∀ v ∈ V ++ [k], v ∈ N.map Prod.fst := fun v hv => by
    rcases List.mem_append.1 hv with h | h
    · exact hV v h
    · simp at h; subst h; exact List.mem_map.2 ⟨_, hkx, rfl⟩
  rcases hD.get k with ⟨hg, hmade⟩ | ⟨hg, hmade⟩
  · rw [hg]
    refine ⟨true, rfl, ifB_false rfl ⟨N.length - (V.length + 1), by omega, ext_tr e13 e14, V ++ [k], M, by rw [hlen], hV', hM.iff fun v => ?_, S14⟩⟩
    constructor
    · rintro (⟨h1, h2⟩ | h)
      · exact .inl ⟨by simp [h1], h2⟩
      · exact .inr h
    · rintro (⟨h1, h2⟩ | h)
      · rcases List.mem_append.1 h1 with h1 | h1
        · exact .inl ⟨h1, h2⟩
        · simp at h1; subst h1; exact absurd hmade h2
      · exact .inr h
  · rw [hg]
    refine ⟨false, rfl, ifB_true rfl ?_⟩
    refine mup_set S14.rot3 hM fun h15 M' e15 hM' S15 => ⟨N.length - (V.length + 1), by omega, ext_tr e13 (ext_tr e14 e15), V ++ [k], M', by rw [hlen], hV', hM'.iff fun v => ?_, S15.rot3.rot3⟩
    constructor
    · rintro (rfl | ⟨h1, h2⟩ | h)
      · exact .inl ⟨by simp, hmade⟩
      · exact .inl ⟨by simp [h1], h2⟩
      · exact .inr h
    · rintro (⟨h1, h2⟩ | h)
      · rcases List.mem_append.1 h1 with h1 | h1
        · exact .inr (.inl ⟨h1, h2⟩)
        · simp at h1; exact .inl h1
      · exact .inr (.inr h)

end Go.Proofs.YtojdbliehgejbaaDoor

/-
  live: what is live at a block's end, and ahead of its code.
-/
namespace Go.Proofs.YtojdbliehgejbaaDoor
open Go.Fw Go.Pl.Api Go.Pl.Set Go.Pl.Live

abbrev siL := si_Llive_set

set_option maxHeartbeats 1000000 in
theorem end_calls {h0 h : Heap} {X : List As} {cs : Array Value} {f : MFunc} {is : Sl} {Ms : List (List (ByteArray × Bool))} {I : Nat → VSet} {i : Nat} (S : Fw.Sep h0 h (ownSl si_Llive_set (eMS vfB) is Ms :: X)) (hf : rFunc.rv h cs.toList f) (hlen : Ms.length = f.blocks.length) (hi : i < f.blocks.length)
    (hI : ∀ k (hk : k < Ms.length), IsSet Ms[k] (I k)) :
    ACalls Tryd.prog F_live_end [.agg cs, is.v, .int .i64 i] h
      (fun v h' => ∃ b M, v = .map (some b) ∧ hExt h h' ∧ IsSet M (endV f I f.blocks[i]) ∧ Fw.Sep h0 h' (ownM vfB (some b) M :: ownSl si_Llive_set (eMS vfB) is Ms :: X)) := by
  refine live_end_of ?_
  unfold live_end
  refine new_rv hf fun p h1 o1 hp => ?_
  refine ld_lst (fld_blocks.rd hp) (hExt.refl _) fun la hla => ?_
  refine idx_rdN hla rfl hi fun p1 _ hp1 => ld_agg hp1 (hExt.refl _) rfl fun c1 hc1 => ?_
  refine new_stX hc1 (hExt.refl _) rfl rfl fun p2 h3 o3 hb2 => ?_
  refine mkm_rule (vf := vfB) ((S.grow o1).grow o3) fun m h4 o4 S4 => ?_
  obtain ⟨_, m, _, _, rfl, _⟩ := S4.get
  have e14 := ext_tr o3.ext o4.ext
  have hb4 := RV.bx_old hb2 o4
  generalize hB : f.blocks[i] = B at hb4 ⊢
  clear hb2 hc1 hp1 S
  refine ld_lstX (bx_two hb4.1 ((Fld.trans fld_term fld_to rfl).bx hb4)) fun lt hlt => ?_
  have hltl := hlt.lenEq
  have hltb := hlt.bound
  refine loop_intro (fun n (q : Int) h' => ∃ j : Nat, q = j ∧ j ≤ B.term.to.length ∧ n = B.term.to.length - j ∧ hExt h4 h' ∧ ∃ M, IsSet M (fun v => ∃ n ∈ B.term.to.take j, ∃ k, place f n = some k ∧ ∃ c, f.blocks[k]? = some c ∧ intoV c B.name (I k) v) ∧
      Fw.Sep h0 h' (ownM vfB (some m) M :: ownSl si_Llive_set (eMS vfB) is Ms :: X)) B.term.to.length
    ⟨0, rfl, by omega, by omega, hExt.refl _, [], IsSet.nil.iff fun v => by simp, S4⟩ ?_
  clear S4
  rintro _ _ _ h5 ⟨j, rfl, hj, rfl, e5, M, hM, S⟩
  have hb5 := RV.bx_ext hb4 e5
  have e15 := ext_tr e14 e5
  refine ifB_intro (fun hc => ?_) (fun hc => ?_)
  · have hjl : j < B.term.to.length := by rw [hltl] at hc; simpa using hc
    intro k hk
    refine idx_rdN hlt rfl hjl fun p3 _ hp3 => ld_str hp3 e15 ?_
    refine ld_agg hp e15 rfl fun c4 hc4 => ?_
    refine (place_calls (rFunc.ext hc4 e15) B.term.to[j]).mono ?_
    rintro u h7 ⟨rfl, o7⟩
    have S7 := S.grow o7
    have e17 := ext_tr e15 o7.ext
    have hb7 := RV.bx_old hb5 o7
    have next : ∀ h' M', hExt h7 h' → IsSet M' (fun v => (∃ k, place f B.term.to[j] = some k ∧ ∃ c, f.blocks[k]? = some c ∧ intoV c B.name (I k) v) ∨ ∃ n ∈ B.term.to.take j, ∃ k, place f n = some k ∧ ∃ c, f.blocks[k]? = some c ∧ intoV c B.name (I k) v) →
        Fw.Sep h0 h' (ownM vfB (some m) M' :: ownSl si_Llive_set (eMS vfB) is Ms :: X) → k () h' := fun h' M' e' hM' S' => hk _ _ fun _ => ar_i64 (by omega) (by omega) ⟨B.term.to.length - (j + 1), by omega, j + 1, rfl, by omega, rfl, ext_tr e5 (ext_tr o7.ext e'), M', hM'.iff fun v => by rw [take_ex hjl], S'⟩
    unfold placeV
    cases hpl : place f B.term.to[j] with
    | none =>
      refine ⟨_, _, rfl, ifB_true rfl (next h7 M (hExt.refl _) (hM.iff fun v => ?_) S7)⟩
      simp [hpl]
    | some z =>
      have hz := place_lt hpl
      have hzM : z < Ms.length := by omega
      refine ⟨_, _, rfl, ifB_false rfl ?_⟩
      refine ld_lst (fld_blocks.rd hp) e17 fun lb hlb => ?_
      refine idx_rdN hlb rfl hz fun p4 _ hp4 => ld_agg hp4 e17 rfl fun c6 hc6 => ?_
      obtain ⟨c, hcell, Sm, hback⟩ := map_atS S7.swap hzM
      refine idx_rdN S7.swap.rd rfl hzM fun p5 hp5 _ => ?_
      refine ld_one (k := .map) (x := some c) (hcell p5 hp5) ?_
      refine ld_strX (fld_name.bx hb7) ?_
      refine (into_calls Sm.rot3 hM (hI z hzM) (rBlock.ext hc6 e17)).mono ?_
      rintro u h8 ⟨rfl, e8, M', hM', S8⟩
      refine ⟨rfl, e8, next h8 M' e8 (hM'.iff fun v => ?_) ?_⟩
      · rw [hpl]
        refine or_congr ⟨fun h => ⟨z, rfl, _, List.getElem?_eq_getElem hz, h⟩, ?_⟩ Iff.rfl
        rintro ⟨k', hk', c', hc', h⟩
        injection hk' with hk'
        subst hk'
        rw [List.getElem?_eq_getElem hz] at hc'
        injection hc' with hc'
        subst hc'
        exact h
      · have := hback h8 _ _ S8.rot3.rot3
        rw [List.set_getElem_self] at this
        exact this.swap
  have hjl : B.term.to.length ≤ j := by rw [hltl] at hc; simpa using hc
  rw [List.take_of_length_le hjl] at hM
  intro k1 hk1 k2 hk2
  have stop : ∀ h' M', hExt h5 h' → IsSet M' (endV f I B) → Fw.Sep h0 h' (ownM vfB (some m) M' :: ownSl si_Llive_set (eMS vfB) is Ms :: X) → k1 () h' := fun h' M' e' hM' S' => hk1 _ _ fun _ => ⟨m, M', rfl, ext_tr o1.ext (ext_tr e15 e'), hM', S'⟩
  have hk : ∀ t, t = decide (B.term.kind = 2 ∨ B.term.kind = 3) → k2 t h5 := by
    rintro t rfl
    refine hk2 _ _ fun _ => ifB_intro (fun ht => ?_) (fun ht => ?_)
    · have ht := of_decide_eq_true ht
      refine ld_aggX (bx_two hb5.1 ((Fld.trans fld_term fld_tA rfl).bx hb5)) rfl fun c9 hc9 => ?_
      refine (arg_calls (a := B.term.a) S hM (rv_arg.1 hc9)).mono ?_
      rintro u h11 ⟨rfl, e11, M', hM', S11⟩
      refine ⟨rfl, stop h11 M' e11 (hM'.iff fun v => ?_) S11⟩
      unfold endV
      constructor
      · rintro (h | h)
        · exact .inr ⟨ht, h⟩
        · exact .inl h
      · rintro (h | ⟨_, h⟩)
        · exact .inr h
        · exact .inl h
    · have ht := of_decide_eq_false ht
      refine stop h5 M (hExt.refl _) (hM.iff fun v => ?_) S
      unfold endV
      exact ⟨.inl, fun h => h.resolve_right fun h => ht h.1⟩
  refine ld_intX (bx_two hb5.1 ((Fld.trans fld_term fld_tKind rfl).bx hb5)) ?_
  refine ifB_intro (fun h2 => ?_) (fun h2 => ?_)
  · have h2 : B.term.kind = 2 := by simpa using h2
    exact hk _ (by simp [h2])
  · have h2 : ¬ B.term.kind = 2 := by simpa using h2
    refine ld_intX (bx_two hb5.1 ((Fld.trans fld_term fld_tKind rfl).bx hb5)) (hk _ ?_)
    by_cases h3 : B.term.kind = 3 <;> simp [h2, h3]

theorem back_calls {h0 h : Heap} {X : List As} {b : Nat} {M : List (ByteArray × Bool)} {P : VSet} {cb : Array Value} {B : MBlock} {at' : Nat} (S : Fw.Sep h0 h (ownM vfB (some b) M :: X)) (hM : IsSet M P) (hB : rBlock.rv h cb.toList B) (hat : at' ≤ B.code.length) :
    ACalls Tryd.prog F_live_set_back [.map (some b), .agg cb, .int .i64 at'] h (fun u h' => u = .tuple #[] ∧ hExt h h' ∧ ∃ M', IsSet M' (backV (B.code.drop at') P) ∧ Fw.Sep h0 h' (ownM vfB (some b) M' :: X)) := by
  refine live_set_back_of ?_
  unfold live_set_back
  refine new_rv hB fun p h1 o1 hp => ?_
  refine ld_lst (fld_code.rd hp) (hExt.refl _) fun la hla => ?_
  have hlal := hla.lenEq
  have hlab := hla.bound
  refine ar_i64 (by omega) (by omega) ?_
  refine loop_intro (fun n (q : Int) h' => ∃ j : Nat, q = (j : Int) - 1 ∧ at' ≤ j ∧ j ≤ B.code.length ∧ n = j ∧ hExt h1 h' ∧ ∃ M', IsSet M' (backV (B.code.drop j) P) ∧ Fw.Sep h0 h' (ownM vfB (some b) M' :: X)) B.code.length
    ⟨B.code.length, by rw [hlal], hat, Nat.le_refl _, rfl, hExt.refl _, M, by rw [List.drop_length]; exact hM, S.grow o1⟩ ?_
  clear S hM M
  rintro n _ _ h2 ⟨j, rfl, haj, hj, hn, e2, M, hM, S⟩
  refine ifB_intro (fun hc => ?_) (fun hc => ?_)
  · have hc := of_decide_eq_true hc
    have hj1 : at' ≤ j - 1 := by omega
    have hjl : j - 1 < B.code.length := by omega
    have ej : (j : Int) - 1 = ((j - 1 : Nat) : Int) := by omega
    rw [ej]
    refine ld_lst (fld_code.rd hp) e2 fun lc hlc => ?_
    refine idx_rdN hlc rfl hjl fun p1 _ hp1 => ld_agg hp1 e2 rfl fun c1 hc1 => ?_
    refine (over_calls S hM (rInstr.ext hc1 e2)).mono ?_
    rintro u h3 ⟨rfl, e3, M', hM', S3⟩
    refine ⟨rfl, ar_i64 (by omega) (by omega) ⟨j - 1, by omega, j - 1, by omega, hj1, by omega, rfl, ext_tr e2 e3, M', ?_, S3⟩⟩
    rw [List.drop_eq_getElem_cons hjl]
    have : j - 1 + 1 = j := by omega
    rw [this]
    exact hM'
  · have hc := of_decide_eq_false hc
    have : j = at' := by omega
    subst this
    exact ⟨rfl, ext_tr o1.ext e2, M, hM, S⟩

end Go.Proofs.YtojdbliehgejbaaDoor

/-
  live: the sets at all blocks' starts.
-/
namespace Go.Proofs.YtojdbliehgejbaaDoor
open Go.Fw Go.Pl Go.Pl.Api Go.Pl.Set Go.Pl.Live

abbrev MSet := List (ByteArray × Bool)
def insOf (Ms : List MSet) : Nat → VSet := fun k v => ∃ M, Ms[k]? = some M ∧ v ∈ M.map Prod.fst
structure GoodM (M : MSet) : Prop where
  all : ∀ x ∈ M, x.2 = true
  once : (M.map Prod.fst).Nodup
theorem isGood {M : MSet} {P : VSet} (h : IsSet M P) : GoodM M := ⟨h.all, h.once⟩
theorem GoodM.is {Ms : List MSet} {k : Nat} (hk : k < Ms.length) (h : GoodM Ms[k]) : IsSet Ms[k] (insOf Ms k) :=
  ⟨h.all, h.once, fun v => ⟨fun hv => ⟨_, List.getElem?_eq_getElem hk, hv⟩, fun ⟨M, hM, hv⟩ => by rw [List.getElem?_eq_getElem hk] at hM; injection hM with hM; subst hM; exact hv⟩⟩
theorem insOf_set {Ms : List MSet} {i k : Nat} {N : MSet} (hi : i < Ms.length) {v : ByteArray} : insOf (Ms.set i N) k v ↔ if i = k then v ∈ N.map Prod.fst else insOf Ms k v := by
  unfold insOf
  by_cases e : i = k
  · subst e
    rw [if_pos rfl]
    simp [hi]
  · rw [if_neg e, List.getElem?_set_ne e]

/-- What holds of the sets on the way. -/
structure LI (f : MFunc) (Ms : List MSet) : Prop where
  len : Ms.length = f.blocks.length
  good : ∀ k (hk : k < Ms.length), GoodM Ms[k]
  le : ∀ k v, insOf Ms k v → liveIns f k v
  inc : ∀ k v, insOf Ms k v → stepV f (insOf Ms) k v

theorem LI.step {f : MFunc} {Ms : List MSet} (L : LI f Ms) {i : Nat} (hi : i < Ms.length) {N : MSet} (hN : IsSet N (stepV f (insOf Ms) i)) : LI f (Ms.set i N) ∧ Ms[i].length ≤ N.length ∧
    (N.length ≤ Ms[i].length → ∀ k v, insOf (Ms.set i N) k v ↔ insOf Ms k v) := by
  have hsub : ∀ k v, insOf Ms k v → insOf (Ms.set i N) k v := fun k v hv => by
    rw [insOf_set hi]
    split
    · rename_i e
      subst e
      exact (hN.mem v).2 (L.inc _ _ hv)
    · exact hv
  have hle := (L.good i hi).is hi |>.len_le hN fun v hv => L.inc _ _ hv
  refine ⟨⟨by rw [List.length_set]; exact L.len, fun k hk => ?_, fun k v hv => ?_, fun k v hv => ?_⟩, hle, fun hl k v => ⟨fun hv => ?_, hsub k v⟩⟩
  · rw [List.getElem_set]
    split
    · exact isGood hN
    · exact L.good k (by simpa using hk)
  · rw [insOf_set hi] at hv
    split at hv
    · rename_i e
      subst e
      exact live_pre (stepV_mono L.le _ ((hN.mem v).1 hv))
    · exact L.le k v hv
  · rw [insOf_set hi] at hv
    refine stepV_mono hsub _ ?_
    split at hv
    · rename_i e
      subst e
      exact (hN.mem v).1 hv
    · exact L.inc k v hv
  · rw [insOf_set hi] at hv
    split at hv
    · rename_i e
      subst e
      exact ((L.good i hi).is hi).eq_of_len hN (fun v hv => L.inc _ _ hv) hl v ((hN.mem v).1 hv)
    · exact hv

def totM (Ms : List MSet) : Nat := (Ms.map List.length).sum
theorem totM_set : ∀ {Ms : List MSet} {i : Nat} {N : MSet} (hi : i < Ms.length), totM (Ms.set i N) + Ms[i].length = totM Ms + N.length
  | [], _, _, hi => by simp at hi
  | M :: Ms, 0, N, _ => by simp [totM]; omega
  | M :: Ms, i + 1, N, hi => by
    have := totM_set (Ms := Ms) (i := i) (N := N) (by simpa using hi)
    simp only [totM, List.set_cons_succ, List.map_cons, List.sum_cons, List.getElem_cons_succ] at this ⊢
    omega
theorem live_names {f : MFunc} {k : Nat} {v : ByteArray} (h : liveIns f k v) : v ∈ namesN f :=
  h (fun _ v => v ∈ namesN f) fun _ _ ⟨b, hb, hw⟩ => back_names (S := endV f (fun _ v => v ∈ namesN f) b) (fun _ hv => endV_names (I := fun _ v => v ∈ namesN f) (fun _ _ h => h) hb hv) hb (fun _ hx => hx) hw
theorem totM_le {W : Nat} : ∀ {Ms : List MSet}, (∀ M ∈ Ms, M.length ≤ W) → totM Ms ≤ Ms.length * W
  | [], _ => by simp [totM]
  | M :: Ms, h => by
    have := totM_le fun M hM => h M (List.mem_cons_of_mem _ hM)
    have h1 := h M (by simp)
    simp only [totM, List.map_cons, List.sum_cons, List.length_cons, Nat.succ_mul] at this ⊢
    omega
theorem LI.tot {f : MFunc} {Ms : List MSet} (L : LI f Ms) : totM Ms ≤ Ms.length * (namesN f).length := totM_le fun M hM => by
  obtain ⟨k, hk, rfl⟩ := List.getElem_of_mem hM
  have := List.Nodup.length_le_of_subset (L.good k hk).once (l₂ := namesN f) fun v hv => live_names (L.le k v ((((L.good k hk).is hk).mem v).1 hv))
  simpa using this


set_option maxHeartbeats 2000000 in
theorem all_calls {h : Heap} {cs : Array Value} {f : MFunc} (hf : rFunc.rv h cs.toList f) (hbl : f.blocks.length ≤ 1000000) :
    ACalls Tryd.prog F_live_all [.agg cs] h (fun v h' => ∃ s Ms, v = s.v ∧ Ms.length = f.blocks.length ∧ (∀ k (hk : k < Ms.length), IsSet Ms[k] (liveIns f k)) ∧ Fw.Sep h h' [ownSl si_Llive_set (eMS vfB) s Ms]) := by
  refine live_all_of ?_
  unfold live_all
  refine new_rv hf fun p h1 o1 hp => ?_
  refine ld_lst (fld_blocks.rd hp) (hExt.refl _) fun la hla => ?_
  have hlal := hla.lenEq
  have hlab := hla.bound
  rw [hlal]
  refine ⟨rfl, mk_rule (x := none) (E := eMN vfB) (Fw.Sep.start h1) rfl (fun h => ⟨rfl, rfl⟩) (by omega) (by omega) (by simp only [si_Llive_set]; omega) fun s h2 S => ?_⟩
  rw [Int.toNat_natCast] at S
  have hsl := S.rd.lenEq
  rw [List.length_replicate] at hsl
  generalize hn : f.blocks.length = n at *
  refine loop_intro (fun m (t : Int) h' => ∃ (j : Nat) (A : List (Option MSet)), t = j ∧ j ≤ n ∧ m = n - j ∧ A.length = n ∧ (∀ i (hi : i < A.length), i < j → A[i] = some []) ∧ Fw.Sep h1 h' [ownSl si_Llive_set (eMN vfB) s A]) n
    ⟨0, _, rfl, by omega, by omega, by simp, fun i hi h => by omega, S⟩ ?_
  clear S
  rintro _ _ _ h3 ⟨j, A, rfl, hj, rfl, hAl, hA, S⟩
  refine ifB_intro (fun hc => ?_) (fun hc => ?_)
  · have hjl : j < n := by rw [hsl] at hc; simpa using hc
    refine mkm_rule (vf := vfB) S fun m h4 o4 S4 => ?_
    refine idx_rdN S4.swap.rd rfl (by omega) fun p1 hp1 _ => ?_
    have S5 : Fw.Sep h1 h4 (ownEl (eMN vfB) [.map m] (some []) :: ownSl si_Llive_set (eMN vfB) s A :: []) := S4.conv loc_ownEl fun f' o => by
      obtain ⟨_, b, _, _, rfl, _⟩ := S4.get
      exact ⟨f', List.Sublist.refl f', b, rfl, o⟩
    refine st_rule S5.swap hp1 rfl (by omega) fun h5 S6 => ?_
    refine ar_i64 (by omega) (by omega) ⟨n - (j + 1), by omega, j + 1, _, rfl, by omega, rfl, by rw [List.length_set]; exact hAl, fun i hi hij => ?_, S6⟩
    rw [List.getElem_set]
    split
    · rfl
    · exact hA i (by simpa using hi) (by omega)
  have hjl : n ≤ j := by rw [hsl] at hc; simpa using hc
  have hAe : A = (List.replicate n ([] : MSet)).map some := by
    refine List.ext_getElem (by simp [hAl]) fun i h1 h2 => ?_
    rw [hA i h1 (by omega)]
    simp
  rw [hAe] at S
  have S := S.allN
  clear hA hAe hjl hc hj j hAl A
  have hL0 : LI f (List.replicate n ([] : MSet)) := by
    have hno : ∀ k v, ¬ insOf (List.replicate n ([] : MSet)) k v := fun k v ⟨M, hM, hv⟩ => by
      have := List.mem_of_getElem? hM
      rw [List.mem_replicate] at this
      rw [this.2] at hv
      simp at hv
    exact ⟨by simp [hn], fun k hk => by simp only [List.getElem_replicate]; exact ⟨by simp, by simp⟩, fun k v h => absurd h (hno k v), fun k v h => absurd h (hno k v)⟩
  refine loop_intro (fun m (g : Bool) h' => ∃ Ms, LI f Ms ∧ m = 2 * (n * (namesN f).length - totM Ms) + (if g then 1 else 0) ∧ (g = false → ∀ k v, stepV f (insOf Ms) k v → insOf Ms k v) ∧ Fw.Sep h1 h' [ownSl si_Llive_set (eMS vfB) s Ms]) _
    ⟨_, hL0, rfl, nofun, S⟩ ?_
  clear S hL0
  rintro _ _ g h6 ⟨Ms, L, rfl, hfix, S⟩
  have htot := L.tot
  have hMl := L.len
  rw [hMl, hn] at htot
  refine ifB_intro (fun hg => ?_) (fun hg => ?_)
  · subst hg
    refine ld_lst (fld_blocks.rd hp) S.old.ext fun lb hlb => ?_
    have hlbl := hlb.lenEq
    refine ar_i64 (by omega) (by omega) ?_
    refine loop_intro (fun m (q : Bool × Int) h' => ∃ (j : Nat) (Ms' : List MSet), q.2 = (j : Int) - 1 ∧ j ≤ n ∧ m = j ∧ LI f Ms' ∧ totM Ms ≤ totM Ms' ∧ (q.1 = true → totM Ms < totM Ms') ∧ (q.1 = false → ∀ k, j ≤ k → ∀ v, stepV f (insOf Ms') k v → insOf Ms' k v) ∧
        Fw.Sep h1 h' [ownSl si_Llive_set (eMS vfB) s Ms']) n
      ⟨n, Ms, by rw [hlbl, hn], Nat.le_refl _, rfl, L, Nat.le_refl _, nofun, fun _ k hk v ⟨b, hb, _⟩ => ?_, S⟩ ?_
    · have := (List.getElem?_eq_some_iff.1 hb).1
      omega
    clear S
    rintro m _ ⟨g', q⟩ h7 ⟨j, Ms', hq, hj, hm, L', hle, hgt, hfx, S⟩
    simp only at hq hgt hfx ⊢
    subst hq
    have hMl' := L'.len
    rw [hn] at hMl'
    refine ifB_intro (fun hc => ?_) (fun hc => ?_)
    · have hc := of_decide_eq_true hc
      have ej : (j : Int) - 1 = ((j - 1 : Nat) : Int) := by omega
      have hjl : j - 1 < n := by omega
      have hjb : j - 1 < f.blocks.length := by omega
      have hjM : j - 1 < Ms'.length := by omega
      rw [ej]
      refine ld_agg hp S.old.ext rfl fun c2 hc2 => ?_
      refine (end_calls (I := insOf Ms') S (rFunc.ext hc2 S.old.ext) L'.len hjb fun k hk => (L'.good k hk).is hk).mono ?_
      rintro u h8 ⟨b, M, rfl, e8, hM, S8⟩
      refine ⟨some b, rfl, ?_⟩
      refine ld_lst (fld_blocks.rd hp) S8.old.ext fun lc hlc => ?_
      refine idx_rdN hlc rfl hjb fun p2 _ hp2 => ld_agg hp2 S8.old.ext rfl fun c4 hc4 => ?_
      refine (back_calls (at' := 0) S8 hM (rBlock.ext hc4 S8.old.ext) (Nat.zero_le _)).mono ?_
      rintro u h9 ⟨rfl, e9, N, hN, S9⟩
      have hN : IsSet N (stepV f (insOf Ms') (j - 1)) := hN.iff fun v => by
        rw [List.drop_zero]
        exact ⟨fun h => ⟨_, List.getElem?_eq_getElem hjb, h⟩, fun ⟨c, hc, h⟩ => by rw [List.getElem?_eq_getElem hjb] at hc; injection hc with hc; subst hc; exact h⟩
      obtain ⟨L2, hlen, hsame⟩ := L'.step hjM hN
      have htot2 := totM_set (N := N) hjM
      refine ⟨rfl, ?_⟩
      intro k hk
      have next : ∀ g2, (g2 = (if N.length > Ms'[j - 1].length then true else g')) → k g2 h9 := fun g2 hg2 => hk _ _ fun _ => by
        refine idx_rdN S9.swap.rd rfl hjM fun p3 hp3 _ => ?_
        have S10 : Fw.Sep h1 h9 (ownEl (eMS vfB) [.map (some b)] N :: ownSl si_Llive_set (eMS vfB) s Ms' :: []) := S9.conv loc_ownEl fun f' o => ⟨f', List.Sublist.refl f', b, rfl, o⟩
        refine st_rule S10.swap hp3 rfl hjM fun h11 S11 => ?_
        have q1 : totM Ms ≤ totM (Ms'.set (j - 1) N) := by omega
        refine ar_i64 (by omega) (by omega) ⟨j - 1, by omega, j - 1, Ms'.set (j - 1) N, rfl, by omega, rfl, L2, q1, fun hg => ?_, fun hg k hk v hv => ?_, S11⟩
        · rw [hg2] at hg
          split at hg
          · omega
          · have := hgt hg; omega
        · rw [hg2] at hg
          split at hg
          · cases hg
          · rename_i hnl
            have hsm := hsame (by omega)
            have hv' : stepV f (insOf Ms') k v := stepV_mono (fun k v h => (hsm k v).1 h) v hv
            rw [insOf_set hjM]
            split
            · rename_i e
              subst e
              exact (hN.mem v).2 hv'
            · rename_i e
              exact hfx hg k (by omega) v hv'
      refine mln_ruleS S9 ⟨hExt.refl _, ?_⟩
      obtain ⟨c, hcell, Sm, hback⟩ := map_atS S9.swap hjM
      refine idx_rdN S9.swap.rd rfl hjM fun p4 hp4 _ => ?_
      refine ld_one (k := .map) (x := some c) (hcell p4 hp4) ?_
      refine mln_ruleS Sm ⟨hExt.refl _, ?_⟩
      refine ifB_intro (fun hc => next _ ?_) (fun hc => next _ ?_)
      · have hc := of_decide_eq_true hc
        rw [if_pos (by omega)]
      · have hc := of_decide_eq_false hc
        rw [if_neg (by omega)]
    · have hc := of_decide_eq_false hc
      have hj0 : j = 0 := by omega
      subst hj0
      have htot' := L'.tot
      rw [hMl'] at htot'
      refine ⟨_, ?_, Ms', L', rfl, fun hg k v hv => hfx hg k (Nat.zero_le _) v hv, S⟩
      cases g'
      · simp; omega
      · have := hgt rfl
        simp; omega
  · have hfx := hfix hg
    exact ⟨s, Ms, rfl, by omega, fun k hk => ((L.good k hk).is hk).iff fun v => live_eq L.le hfx k v, S.since o1⟩

end Go.Proofs.YtojdbliehgejbaaDoor

/-
  live: Uses, At, Ins.
-/
namespace Go.Proofs.YtojdbliehgejbaaDoor
open Go.Fw Go.Pl Go.Pl.Api Go.Pl.Set Go.Pl.Live

/-- A rising list of a set. -/
structure UpS (l : List ByteArray) (P : VSet) : Prop where
  up : Up l
  mem : ∀ v, v ∈ l ↔ P v
theorem UpS.unique {a b : List ByteArray} {P Q : VSet} (h : UpS a P) (k : UpS b Q) (e : ∀ v, P v ↔ Q v) : a = b := up_unique h.up k.up fun v => by rw [h.mem, k.mem, e]
theorem UpS.iff {a : List ByteArray} {P Q : VSet} (h : UpS a P) (e : ∀ v, P v ↔ Q v) : UpS a Q := ⟨h.up, fun v => (h.mem v).trans (e v)⟩
theorem isUp {M : MSet} {P : VSet} (h : IsSet M P) : UpS (sortB (M.map Prod.fst)) P := ⟨sortB_up h.once, fun v => sortB_mem.trans (h.mem v)⟩
/-- Names that are few, and short. -/
structure Sz (ns : List ByteArray) : Prop where
  n : ns.length ≤ 1000000
  sz : ∀ v ∈ ns, v.size ≤ maxLen
theorem set_len {M : MSet} {P : VSet} {ns : List ByteArray} (h : IsSet M P) (hs : ∀ v, P v → v ∈ ns) : M.length ≤ ns.length := by
  have := List.Nodup.length_le_of_subset h.once (l₂ := ns) fun v hv => hs v ((h.mem v).1 hv)
  simpa using this

theorem namesS_calls {h0 h : Heap} {X : List As} {b : Nat} {M : MSet} {P : VSet} {ns : List ByteArray} (S : Fw.Sep h0 h (ownM vfB (some b) M :: X)) (hM : IsSet M P) (hs : ∀ v, P v → v ∈ ns) (hz : Sz ns) :
    ACalls Tryd.prog F_live_set_names [.map (some b)] h (fun v h' => ∃ (s : Sl) (l : List ByteArray), v = s.v ∧ UpS l P ∧ Fw.Sep h h' [ownSl si_Lstring eStr s l]) := by
  refine (names_calls S (Nat.le_trans (set_len hM hs) hz.n) fun x hx => hz.sz _ (hs _ ((hM.mem _).1 (List.mem_map.2 ⟨x, hx, rfl⟩)))).mono ?_
  rintro v h' ⟨s, rfl, S'⟩
  exact ⟨s, _, rfl, isUp hM, S'⟩

theorem uses_calls {h : Heap} {ci : Array Value} {x : MInstr} (hx : rInstr.rv h ci.toList x) (hz : Sz (usesN x)) :
    ACalls Tryd.prog F_live_Uses [.agg ci] h (fun v h' => ∃ (s : Sl) (l : List ByteArray), v = s.v ∧ UpS l (usesV x) ∧ Fw.Sep h h' [ownSl si_Lstring eStr s l]) := by
  refine live_Uses_of ?_
  unfold live_Uses
  refine new_rv hx fun p h1 o1 hp => ?_
  refine mkm_rule (vf := vfB) (Fw.Sep.start h1) fun m h2 o2 S2 => ?_
  obtain ⟨_, m, _, _, rfl, _⟩ := S2.get
  refine ld_agg hp o2.ext rfl fun c hc => ?_
  refine (instr_calls S2 IsSet.nil (rInstr.ext hc o2.ext)).mono ?_
  rintro u h3 ⟨rfl, e3, M, hM, S3⟩
  have hM : IsSet M (usesV x) := hM.iff fun v => by simp
  refine ⟨rfl, (namesS_calls S3 hM (fun v hv => usesN_mem.2 hv) hz).mono ?_⟩
  rintro u h4 ⟨s, l, rfl, hl, S4⟩
  exact ⟨_, rfl, s, l, rfl, hl, S4.since (o1.trans S3.old)⟩

/-- What is live ahead of a place. -/
def atV (f : MFunc) (i k : Nat) : VSet := fun v => ∃ b, f.blocks[i]? = some b ∧ backV (b.code.drop k) (endV f (liveIns f) b) v
theorem atV_names {f : MFunc} {i k : Nat} {v : ByteArray} (h : atV f i k v) : v ∈ namesN f := by
  obtain ⟨b, hb, h⟩ := h
  exact back_names (fun v hv => endV_names (fun k v h => live_names h) hb hv) hb (fun x hx => List.mem_of_mem_drop hx) h

theorem at_calls {h : Heap} {cs : Array Value} {f : MFunc} {i k : Nat} (hf : rFunc.rv h cs.toList f) (hbl : f.blocks.length ≤ 1000000) (hz : Sz (namesN f)) (hi : i < f.blocks.length) (hk : k ≤ f.blocks[i].code.length) :
    ACalls Tryd.prog F_live_At [.agg cs, .int .i64 i, .int .i64 k] h (fun v h' => ∃ (s : Sl) (l : List ByteArray), v = s.v ∧ UpS l (atV f i k) ∧ Fw.Sep h h' [ownSl si_Lstring eStr s l]) := by
  refine live_At_of ?_
  unfold live_At
  refine new_rv hf fun p h1 o1 hp => ?_
  intro q hq
  have go : q false h1 := hq _ _ fun _ => by
    refine ifB_false rfl ?_
    refine ld_agg hp (hExt.refl _) rfl fun c1 hc1 => ?_
    refine ld_agg hp (hExt.refl _) rfl fun c2 hc2 => ?_
    refine (all_calls hc2 hbl).mono ?_
    rintro u h3 ⟨r, Ms, rfl, hlen, hMs, S3⟩
    refine ⟨_, rfl, S3.old.ext, ?_⟩
    refine (end_calls S3 (rFunc.ext hc1 S3.old.ext) hlen hi hMs).mono ?_
    rintro u h4 ⟨b, M, rfl, e4, hM, S4⟩
    refine ⟨_, rfl, e4, ?_⟩
    refine ld_lst (fld_blocks.rd hp) S4.old.ext fun lb hlb => ?_
    refine idx_rdN hlb rfl hi fun p1 _ hp1 => ld_agg hp1 S4.old.ext rfl fun c3 hc3 => ?_
    refine (back_calls S4 hM (rBlock.ext hc3 S4.old.ext) hk).mono ?_
    rintro u h5 ⟨rfl, e5, N, hN, S5⟩
    have hN : IsSet N (atV f i k) := hN.iff fun v => ⟨fun h => ⟨_, List.getElem?_eq_getElem hi, h⟩, fun ⟨c, hc, h⟩ => by rw [List.getElem?_eq_getElem hi] at hc; injection hc with hc; subst hc; exact h⟩
    refine ⟨rfl, (namesS_calls S5 hN (fun v hv => atV_names hv) hz).mono ?_⟩
    rintro u h6 ⟨s, l, rfl, hl, S6⟩
    exact ⟨_, rfl, s, l, rfl, hl, S6.since (o1.trans S5.old)⟩
  refine ifB_false (decide_eq_false (by omega)) ?_
  refine ld_lst (fld_blocks.rd hp) (hExt.refl _) fun lb hlb => ?_
  have hlbl := hlb.lenEq
  refine ifB_false (decide_eq_false (by omega)) ?_
  refine ifB_false (decide_eq_false (by omega)) ?_
  refine ld_lst (fld_blocks.rd hp) (hExt.refl _) fun lb2 hlb2 => ?_
  refine idx_rdN hlb2 rfl hi fun p2 _ hp2 => ?_
  refine ld_lst (fld_code.rd hp2) (hExt.refl _) fun lc hlc => ?_
  have hlcl := hlc.lenEq
  rw [decide_eq_false (by omega)]
  exact go

theorem ins_calls {h : Heap} {cs : Array Value} {f : MFunc} (hf : rFunc.rv h cs.toList f) (hbl : f.blocks.length ≤ 1000000) (hz : Sz (namesN f)) :
    ACalls Tryd.prog F_live_Ins [.agg cs] h (fun v h' => ∃ (s : Sl) (ll : List (List ByteArray)), v = s.v ∧ ll.length = f.blocks.length ∧ (∀ i (hi : i < ll.length), UpS ll[i] (liveIns f i)) ∧ Fw.Sep h h' [ownSl si_LLstring (Elem.sl si_Lstring eStr) s ll]) := by
  refine live_Ins_of ?_
  unfold live_Ins
  refine new_rv hf fun p h1 o1 hp => ?_
  refine ld_agg hp (hExt.refl _) rfl fun c2 hc2 => ?_
  refine (all_calls hc2 hbl).mono ?_
  rintro u h3 ⟨r, Ms, rfl, hlen, hMs, S3⟩
  refine ⟨_, rfl, ?_⟩
  have hrl := S3.rd.lenEq
  refine loop_intro (fun m (q : Sl × Int) h' => ∃ (ll : List (List ByteArray)), q.2 = (ll.length : Int) ∧ ll.length ≤ f.blocks.length ∧ m = f.blocks.length - ll.length ∧ (∀ i (hi : i < ll.length), UpS ll[i] (liveIns f i)) ∧
      Fw.Sep h1 h' [ownSl si_LLstring (Elem.sl si_Lstring eStr) q.1 ll, ownSl si_Llive_set (eMS vfB) r Ms]) f.blocks.length
    ⟨[], rfl, by simp, by simp, by simp, S3.nil rfl⟩ ?_
  clear S3
  rintro _ _ ⟨out, q⟩ h4 ⟨ll, hq, hll, rfl, hul, S⟩
  simp only at hq S ⊢
  subst hq
  refine ifB_intro (fun hc => ?_) (fun hc => ?_)
  · have hil : ll.length < Ms.length := by rw [hrl] at hc; simpa using hc
    obtain ⟨b, hcell, Sm, hback⟩ := map_atS S.swap hil
    refine idx_rdN S.swap.rd rfl hil fun p1 hp1 _ => ?_
    refine ld_one (k := .map) (x := some b) (hcell p1 hp1) ?_
    refine (namesS_calls Sm (hMs _ hil) (fun v hv => live_names hv) hz).mono ?_
    rintro u h5 ⟨s, l, rfl, hl, S5⟩
    refine ⟨_, rfl, ?_⟩
    have S6 := (Sm.frame S5).perm (L' := ownM vfB (some b) Ms[ll.length] :: ownSl si_Llive_set (eMS vfB).raw r ((Ms.map .inl).set ll.length (.inr [.map (some b)])) :: ownSl si_Lstring eStr s l :: [ownSl si_LLstring (Elem.sl si_Lstring eStr) out ll]) (by
      simp only [List.singleton_append]
      exact (List.Perm.swap _ _ _).trans (List.Perm.cons _ (List.Perm.swap _ _ _)))
    have S7 := hback _ _ _ S6
    rw [List.set_getElem_self] at S7
    refine app1_rule (x := l) S7.swap.toEl.rot3 rfl (by decide) (by simp only [si_LLstring]; omega) (by omega) fun s2 h6 S8 => ?_
    refine ar_i64 (by omega) (by omega) ⟨f.blocks.length - (ll.length + 1), by omega, ll ++ [l], by simp, by simp; omega, by simp, fun i hi => ?_, S8⟩
    by_cases e : i < ll.length
    · rw [List.getElem_append_left e]
      exact hul i e
    · have : i = ll.length := by simp at hi; omega
      subst this
      simpa using hl
  · have hil : ll.length = f.blocks.length := by
      have hc := of_decide_eq_false hc
      omega
    exact ⟨out, ll, rfl, hil, hul, (S.swap.drop).since o1⟩

end Go.Proofs.YtojdbliehgejbaaDoor
