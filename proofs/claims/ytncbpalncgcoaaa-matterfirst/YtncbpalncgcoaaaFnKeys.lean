/-
  slices.Sorted(maps.Keys(m)) at a map keyed by int64.
-/
import Derived.Test.YtncbpalncgcoaaaFnVst
import Derived.Test.YtncbpalncgcoaaaFwMapI
import Derived.Test.YtncbpalncgcoaaaLayD
import Derived.Shelf.SlIterI.Nil
import Derived.Shelf.SortM.Plain
import Derived.Shelf.SortM.SortNone
namespace Go.Proofs.Ytncbpalncgcoaaa
open Go.Fw Go.Fw.I Go.Pl.Api Go.Pl.Vst Go.WideElems

theorem keys_calls {h : Heap} {m : Option Nat} :
    ACalls Try.prog F_maps_Keys [.map m] h (fun v h' => ∃ b, v = .func (.func 98) #[] #[.pointer (some ⟨b, 0, none⟩)] ∧ Old h h' ∧ b < h'.size ∧ hcell h' ⟨b, 0, none⟩ = some (.map m)) := by
  refine maps_Keys_of ?_
  unfold maps_Keys
  exact ⟨h.size, rfl, Old.push _ _, by simp, by unfold hcell; simp⟩

theorem sortsD (m : Nat) : AnyZI.SortsIn Try.prog laySorted_ren Fence.wide m :=
  ⟨fun blk off cap ss W hH hblk hsz => callsIn_wide.2 (AnyM.slices_Sort_int laySort blk off cap ss W hH hblk hsz),
   fun p cap W => callsIn_wide.2 (AnyM.slices_Sort_int_none laySort p cap W)⟩

def vfB : Bool → Value := fun b => .bool b
theorem und2 : Try.prog.underlying 2 = some (.int .i64) := by kernel_rfl
theorem und4b : Try.prog.underlying 4 = some .bool := by kernel_rfl

theorem sorted_calls {h : Heap} {L : List As} {h0 : Heap} {p b : Nat} {l : List (Int × Bool)} (S : Sep h0 h (ownM vfB (some b) l :: L)) (hp : p < h.size) (hc : hcell h ⟨p, 0, none⟩ = some (.map (some b))) (hn : l.length ≤ 1000000)
    (hid : ∀ x ∈ l, -9223372036854775808 ≤ x.1 ∧ x.1 ≤ 9223372036854775807) :
    ACalls Try.prog F_slices_Sorted [.func (.func 98) #[] #[.pointer (some ⟨p, 0, none⟩)]] h (fun v h' => ∃ (s : Sl) (ss : List Int), v = s.v ∧ ss.Perm (l.map Prod.fst) ∧ Sep h h' [ownSl si_Lint64 eInt s (ss.mergeSort fun x y => decide (x ≤ y))]) := by
  intro w hw
  obtain ⟨f, b', es, clock, hb1, hb, he, hst, _⟩ := S.get
  injection hb1 with hb1
  subst hb1
  have hlen : es.size = l.length := by have := congrArg List.length he; simpa using this
  have hread : ∀ x ∈ es.toList, ∃ k, rd Try.prog 2 (plainElem (H := Unit) Try.prog 4) x = some (.int .i64 k, .lit (.bool (match x.val with | .bool t => t | _ => false))) ∧ x.key = .int .i64 k := fun x hx => by
    have hm : (x.key, x.val) ∈ l.map fun p => (Value.int .i64 p.1, vfB p.2) := he ▸ List.mem_map.2 ⟨x, hx, rfl⟩
    obtain ⟨q, hq, hqe⟩ := List.mem_map.1 hm
    simp only [Prod.mk.injEq] at hqe
    have hr := hid q hq
    refine ⟨q.1, ?_, hqe.1.symm⟩
    have hwf : (Lit.int .i64 q.1).wf = true := by
      simp [Lit.wf, IntKind.min, IntKind.max, IntKind.bits, IntKind.signed]
      omega
    have hk : keyOf Try.prog 2 x.key = some (.int .i64 q.1) := by
      rw [← hqe.1, keyOf_int und2]
      simp [mapKey, hwf]
    obtain ⟨xk, xv, xb⟩ := x
    simp only at hqe hk
    have hv : plainElem (H := Unit) Try.prog 4 xv = some (.lit (.bool q.2), []) := by rw [← hqe.2]; exact plainElem_bool und4b q.2
    rw [rd_mk hk hv, ← hqe.2]
    rfl
  have hfit : Fit Try.prog 2 (plainElem (H := Unit) Try.prog 4) es clock := ⟨by rw [hlen]; simp only [maxLen]; omega, hst, fun x hx => by obtain ⟨k, hk, _⟩ := hread x hx; exact ⟨_, hk⟩⟩
  have hown : w.ownsMap Try.prog 2 (plainElem (H := Unit) Try.prog 4) b es.size (.map ((es.toList.map (rg Try.prog 2 (plainElem (H := Unit) Try.prog 4))).foldr DataW.insert [])) :=
    ⟨es, clock, by rw [hw]; exact hb, hfit, Nat.le_refl _, rfl⟩
  generalize hD : (DataW.map ((es.toList.map (rg Try.prog 2 (plainElem (H := Unit) Try.prog 4))).foldr DataW.insert [])) = D0 at hown
  have hsize : Maps.size D0 = l.length := by
    rw [← hD, Maps.size_eq, Go.length_sorted]
    simp [hlen]
  have hkeys : (intKeys D0).Perm (l.map Prod.fst) := by
    rw [← hD]
    show (((es.toList.map (rg Try.prog 2 (plainElem (H := Unit) Try.prog 4))).foldr DataW.insert []).map fun p => _root_.Go.intOf p.1).Perm _
    refine ((Go.WideShapes.sorted_perm _).map _).trans ?_
    rw [List.map_map]
    have : es.toList.map ((fun p => _root_.Go.intOf p.1) ∘ rg Try.prog 2 (plainElem (H := Unit) Try.prog 4)) = l.map Prod.fst := by
      have h1 : es.toList.map ((fun p => _root_.Go.intOf p.1) ∘ rg Try.prog 2 (plainElem (H := Unit) Try.prog 4)) = (es.toList.map fun e => (e.key, e.val)).map fun kv => match kv.1 with | .int _ a => a | _ => 0 := by
        rw [List.map_map]
        refine List.map_congr_left fun x hx => ?_
        obtain ⟨k, hk, hkey⟩ := hread x hx
        simp only [Function.comp, rg_of hk, hkey, _root_.Go.intOf]
      rw [h1]
      unfold Ents at he
      rw [he, List.map_map]
      exact List.map_congr_left fun x _ => rfl
    rw [this]
  have hseq : SeqGives Fence.wide 2 Try.prog 98 #[.pointer (some ⟨p, 0, none⟩)] encZ (fun ss => ss.Perm (intKeys D0)) (Maps.size D0) w :=
    AnyZI.keys_gives (ρ := layKeys_ren) { layKeys with } Fence.wide _ trivial rfl (by omega) p b _ D0 w (by rw [hw]; exact hp) (by rw [cell_eq, hw]; exact hc) hown
  have cS := AnyZI.sorted_in laySorted Fence.wide 5 trivial trivial trivial trivial rfl (by omega) (sortsD _) (enters_of Try.func97 (by kernel_rfl) rfl) 98 #[.pointer (some ⟨p, 0, none⟩)] trivial (enters_of Try.func98 (by kernel_rfl) rfl) _ _ (by rw [hsize]; simp only [maxLen]; omega) (by rw [hsize]; omega) w hseq
  change CallsIn _ _ Try.prog 65 _ _ _ at cS
  refine (callsIn_wide.1 cS).mono ?_
  rintro e w' ⟨v, ss, rfl, hS, hrow, hnil, hbel⟩
  have hss : ss.length = l.length := by rw [hS.length_eq, hkeys.length_eq]; simp
  refine ⟨v, rfl, ⟨hbel.os, hbel.tape, hbel.output⟩, ?_⟩
  have hold : Old h w'.heap := by
    subst hw
    exact ⟨hbel.size, fun k hk => hbel.block k hk⟩
  have hml : (ss.mergeSort fun x y => decide (x ≤ y)).length = ss.length := List.length_mergeSort _
  rcases hrow.2 with ⟨h5, h6⟩ | ⟨g, cap, cur, h5, h6, h7, h8, h9, h10, h11⟩
  · refine ⟨⟨none, 0, 0⟩, ss, h5, hS.trans hkeys, ⟨hold, fun A hA => by rw [List.mem_singleton.1 hA]; exact loc_ownSl, [], ⟨[], [], rfl, ?_, rfl⟩, by simp, by simp⟩⟩
    have : ss = [] := List.eq_nil_of_length_eq_zero h6
    subst this
    simp only [List.mergeSort_nil]
    exact ownSl_nil si_Lint64 eInt rfl _
  · refine ⟨⟨some ⟨g, 0, none⟩, ss.length, cap⟩, ss, h5, hS.trans hkeys, ⟨hold, fun A hA => by rw [List.mem_singleton.1 hA]; exact loc_ownSl, [g], ⟨[g], [], rfl, ⟨rfl, (ss.mergeSort fun x y => decide (x ≤ y)).map (fun n => Value.int .i64 n), [], ?_, hml.symm, by rw [hml, hss]; omega, Row.of_cells _, rfl⟩, rfl⟩, by simp, fun z hz => ?_⟩⟩
    · refine hOwn_iff.2 ⟨?_, .inr ⟨g, cur, rfl, h7, h8, h9, h10, h11⟩⟩
      rw [List.length_map, hml]
      exact (Nat.mul_one _).symm
    · rw [List.mem_singleton] at hz
      subst hz
      exact ⟨by rw [← hw]; exact h6, (Array.getElem?_eq_some_iff.1 h7).1⟩

end Go.Proofs.Ytncbpalncgcoaaa
