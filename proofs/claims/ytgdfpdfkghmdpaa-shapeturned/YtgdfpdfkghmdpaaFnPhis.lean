/-
  shape.from, shape.phi.
-/
import Derived.Test.YtgdfpdfkghmdpaaFnShape4
import Derived.Test.YtgdfpdfkghmdpaaFwMap2
import Derived.Test.YtgdfpdfkghmdpaaFwBox
namespace Go.Proofs.Ytgdfpdfkghmdpaa
open Go.Fw Go.Pl Go.Pl.Api

/-- Who leads to a name: of the first blocks, and of the first ends of the next one. -/
def whoE (n : ByteArray) (l : List ByteArray) (k : ByteArray) : List ByteArray := (l.filter fun t => decide (t = k)).map fun _ => n
def whoT (f : MFunc) (t : Nat) (k : ByteArray) : List ByteArray := (f.blocks.take t).flatMap fun b => whoE b.name b.term.to k
theorem whoE_len (n : ByteArray) (l : List ByteArray) (k : ByteArray) : (whoE n l k).length ≤ l.length := by
  unfold whoE; rw [List.length_map]; exact List.length_filter_le _ _
theorem whoE_succ {n k : ByteArray} {l : List ByteArray} {j : Nat} (hj : j < l.length) : whoE n (l.take (j + 1)) k = whoE n (l.take j) k ++ (if l[j] = k then [n] else []) := by
  unfold whoE
  rw [List.take_succ_eq_append_getElem hj, List.filter_append, List.map_append]
  congr 1
  by_cases h : l[j] = k <;> simp [h]
theorem whoT_succ {f : MFunc} {t : Nat} (ht : t < f.blocks.length) (k : ByteArray) : whoT f (t + 1) k = whoT f t k ++ whoE f.blocks[t].name f.blocks[t].term.to k := by
  unfold whoT
  rw [List.take_succ_eq_append_getElem ht, List.flatMap_append]
  simp
theorem whoT_len {f : MFunc} (hto : ∀ b ∈ f.blocks, b.term.to.length ≤ 8) (k : ByteArray) : ∀ t, t ≤ f.blocks.length → (whoT f t k).length ≤ 8 * t
  | 0, _ => by simp [whoT]
  | t + 1, ht => by
    rw [whoT_succ (by omega), List.length_append]
    have h1 := whoT_len hto k t (by omega)
    have h2 := whoE_len f.blocks[t].name f.blocks[t].term.to k
    have h3 := hto _ (List.getElem_mem (show t < f.blocks.length by omega))
    omega

/-- What a map of lists has for a key. -/
def lst (l : List (ByteArray × Option (List ByteArray))) (k : ByteArray) : List ByteArray := ((aget k l).getD none).getD []

theorem from_calls {h : Heap} {cs : Array Value} {f : MFunc} (hf : rFunc.rv h cs.toList f) (hn : f.blocks.length ≤ 1000) (hto : ∀ b ∈ f.blocks, b.term.to.length ≤ 8) :
    ACalls Try.prog F_shape_from [.agg cs] h (fun v h' => ∃ m l, v = .map m ∧ (∀ k, aget k l ≠ some none ∧ lst l k = whoT f f.blocks.length k) ∧ Sep h h' [ownMS si_Lstring eStr m l]) := by
  refine shape_from_of ?_
  unfold shape_from
  refine new_rv hf fun p h1 o1 hp => ?_
  have hb := fld_blocks.rd hp
  refine mkm_ruleS (ri := si_Lstring) (E := eStr) (Sep.start h1) fun m h2 _ S => ?_
  refine ld_lst hb S.old.ext fun x hx => ?_
  have hxl := hx.lenEq
  refine loop_intro (fun q t h' => ∃ (i : Nat) (l : List (ByteArray × Option (List ByteArray))), t = i ∧ i ≤ f.blocks.length ∧ q = f.blocks.length - i ∧ (∀ k, aget k l ≠ some none ∧ lst l k = whoT f i k) ∧ Sep h1 h' [ownMS si_Lstring eStr m l]) f.blocks.length
    ⟨0, [], rfl, by omega, by omega, (fun k => ⟨by simp [aget], by simp [lst, aget, whoT]⟩), S⟩ ?_
  clear S
  rintro q _ t h3 ⟨i, l, rfl, hi, rfl, hl, S⟩
  refine ifB_intro (fun hc => ?_) (fun hc => ?_)
  · have hil : i < f.blocks.length := by rw [hxl] at hc; simpa using hc
    refine idx_rdN hx rfl hil fun p1 _ hp1 => ?_
    refine ld_agg hp1 S.old.ext rfl fun cs2 hcs2 => ?_
    refine new_stB S hcs2 rfl rfl fun p2 h5 S5 => ?_
    refine ld_lstX (bx_two S5.bx.1 ((Fld.trans fld_term fld_to rfl).bx S5.bx)) fun x2 hx2 => ?_
    have hx2l := hx2.lenEq
    have hx2b := hto _ (List.getElem_mem hil)
    refine loop_intro (fun q t h' => ∃ (j : Nat) (l : List (ByteArray × Option (List ByteArray))), t = j ∧ j ≤ f.blocks[i].term.to.length ∧ q = f.blocks[i].term.to.length - j ∧ (∀ k, aget k l ≠ some none ∧ lst l k = whoT f i k ++ whoE f.blocks[i].name (f.blocks[i].term.to.take j) k) ∧
        Sep h1 h' [boxA rBlock h1 p2 f.blocks[i], ownMS si_Lstring eStr m l]) f.blocks[i].term.to.length
      ⟨0, l, rfl, by omega, by omega, (fun k => ⟨(hl k).1, by rw [(hl k).2]; simp [whoE]⟩), S5⟩ ?_
    clear S S5 hl
    rintro q _ t h6 ⟨j, l, rfl, hj, rfl, hl, S⟩
    refine ifB_intro (fun hc => ?_) (fun hc => ?_)
    · have hjl : j < f.blocks[i].term.to.length := by rw [hx2l] at hc; simpa using hc
      refine idx_rdN hx2 rfl hjl fun p3 _ hp3 => ?_
      refine ld_str hp3 S.old.ext ?_
      refine mlk_ruleS rfl S.swap (hl _).1 fun y l' hput Sy => ?_
      refine ld_strX (fld_name.bx Sy.rot3.bx) ?_
      have hlen : (((aget f.blocks[i].term.to[j] l).getD none).getD []).length ≤ 8 * 1000 + 8 := by
        have h1 := (hl f.blocks[i].term.to[j]).2
        unfold lst at h1
        rw [h1, List.length_append]
        have h2 := whoT_len hto f.blocks[i].term.to[j] i (by omega)
        have h3 := whoE_len f.blocks[i].name (f.blocks[i].term.to.take j) f.blocks[i].term.to[j]
        rw [List.length_take] at h3
        omega
      refine app1_flat (x := f.blocks[i].name) Sy (fun _ => ⟨rfl, rfl⟩) rfl (by decide) (by simp only [si_Lstring]; omega) (by omega) fun s1 h8 S8 => ?_
      refine mup_ruleS S8 fun h9 S9 => ?_
      rw [hput] at S9
      refine ar_i64 (by omega) (by omega) ⟨f.blocks[i].term.to.length - (j + 1), by omega, j + 1, _, rfl, by omega, rfl, fun k => ?_, S9.swap⟩
      unfold lst
      rw [aget_put]
      by_cases e : k = f.blocks[i].term.to[j]
      · rw [if_pos e]
        refine ⟨by simp, ?_⟩
        have h1 := (hl f.blocks[i].term.to[j]).2
        unfold lst at h1
        simp only [Option.getD_some]
        rw [h1, whoE_succ hjl, e]
        simp
      · rw [if_neg e]
        refine ⟨(hl k).1, ?_⟩
        have h1 := (hl k).2
        unfold lst at h1
        have : ¬ f.blocks[i].term.to[j] = k := fun h => e h.symm
        rw [h1, whoE_succ hjl, if_neg this, List.append_nil]
    · have hjl : f.blocks[i].term.to.length ≤ j := by rw [hx2l] at hc; simpa using hc
      refine ar_i64 (by omega) (by omega) ⟨f.blocks.length - (i + 1), by omega, i + 1, l, rfl, by omega, rfl, fun k => ⟨(hl k).1, ?_⟩, S.drop⟩
      rw [(hl k).2, List.take_of_length_le hjl, whoT_succ hil]
  · have hil : f.blocks.length ≤ i := by rw [hxl] at hc; simpa using hc
    have : i = f.blocks.length := by omega
    subst this
    exact ⟨m, l, rfl, hl, S.since o1⟩

end Go.Proofs.Ytgdfpdfkghmdpaa
