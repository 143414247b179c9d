/-
  lateenlaw22.Back: of rows apart from what they own; and of rows told of an older memory.
-/
import Derived.Test.YtncbpalncgcoaaaFnVst
import Derived.Test.YtncbpalncgcoaaaFwFree2
namespace Go.Proofs.Ytncbpalncgcoaaa
open Go.Fw Go.Pl.Api Go.Pl.Vst

/-- An object's cells, whatever they tell. -/
def okObj (xs : List Value) : Prop := ∃ (id k n : Int) (c b : ByteArray) (s : Sl), xs = [.int .i64 id, .string c, s.v, .int .i64 k, .string b, .int .i64 n]
def eBare : Elem (List Value) := eCells 6 okObj
theorem own_ok {x : List Value} {a : MObj} {h : Heap} {f : List Nat} (o : (eObj si_Lapi_Arg).own x a h f) : okObj x := by
  obtain ⟨s, rfl, _⟩ := o
  exact ⟨_, _, _, _, _, s, rfl⟩
theorem rv_ok {h : Heap} {x : List Value} {a : MObj} (o : rObj.rv h x a) : okObj x := by
  obtain ⟨s, rfl, _⟩ := rv_obj.1 o
  exact ⟨_, _, _, _, _, s, rfl⟩
theorem ok_one {x : List Value} (o : okObj x) : x.length = 6 ∧ ∀ v ∈ x, v.oneCell' = true := by
  obtain ⟨_, _, _, _, _, s, rfl⟩ := o
  refine ⟨rfl, fun v hv => ?_⟩
  simp at hv
  rcases hv with rfl | rfl | rfl | rfl | rfl | rfl <;> rfl
theorem bare_flat : eBare.Flat := ⟨fun {h p x} r _ => ⟨x, fun _ => ⟨rfl, rfl, r.2.2.1, r.2.2.2.1, r.2.1⟩, r.2.2.2.2⟩⟩
theorem hc0 {h : Heap} {p : Addr} {v : Value} (hc : hcell h (p.add 0) = some v) : hcell h p = some v := by rwa [Go.Fw.Addr.add_zero'] at hc

theorem back_raw {h : Heap} {s : Sl} {l : List (List Value)} (hs : rdSl eBare h s l) (hn : l.length ≤ 1000000) :
    ACalls Try.prog F_lateenlaw22_Back [s.v] h (fun v h' => ∃ s' : Sl, v = s'.v ∧ Fw.Sep h h' [ownSl si_Llateenref22_Obj eBare s' l]) := by
  refine lateenlaw22_Back_of ?_
  unfold lateenlaw22_Back
  have hl := hs.lenEq
  refine loop_intro (fun m (q : Sl × Int) h' => ∃ i : Nat, q.2 = i ∧ i ≤ l.length ∧ m = l.length - i ∧ Fw.Sep h h' [ownSl si_Llateenref22_Obj eBare q.1 (l.take i)]) l.length
    ⟨0, rfl, by omega, by omega, (Sep.start h).nil rfl⟩ ?_
  rintro _ _ ⟨out, i⟩ h1 ⟨i, hi0, hi, rfl, S⟩
  simp only at hi0 S ⊢
  subst hi0
  refine ifB_intro (fun hc => ?_) (fun hc => ?_)
  · have hil : i < l.length := by rw [hl] at hc; simpa using hc
    have o := S.old
    have key : ∀ p, eBare.rd h p l[i] → ∃ (id k n : Int) (c b : ByteArray) (x : Sl), l[i] = [.int .i64 id, .string c, x.v, .int .i64 k, .string b, .int .i64 n] ∧ p.spot = none ∧ ∀ j v, l[i][j]? = some v → hcell h (p.add j) = some v := by
      rintro p ⟨r1, ⟨id, k, n, c, b, x, e⟩, _, _, r5⟩
      exact ⟨id, k, n, c, b, x, e, r1, r5⟩
    obtain ⟨a, ha, _⟩ : ∃ a : Addr, s.a = some a ∧ True := by
      rcases hs.2.2.2.2 with e | ⟨a, ha, _⟩
      · simp [e] at hil
      · exact ⟨a, ha, trivial⟩
    have hrow : eBare.rd h (a.add (i * 6)) l[i] := by
      rcases hs.2.2.2.2 with e | ⟨a', ha', _, r⟩
      · simp [e] at hil
      · rw [ha] at ha'; cases ha'; exact r i hil
    obtain ⟨id, k, n, c, b, x, e, _, cells⟩ := key _ hrow
    rw [e] at cells
    have at' : ∀ p, At 6 s i p → p = a.add (i * 6) := by
      rintro p ⟨_, a', ha', rfl⟩
      rw [ha] at ha'; cases ha'; rfl
    refine idx_rdN hs rfl hil fun p hp _ => ?_
    cases at' p hp
    refine ld_oneB (k := .int .i64) (x := id) (hc0 (cells 0 _ rfl)) o ?_
    refine idx_rdN hs rfl hil fun p1 hp1 _ => ?_
    cases at' p1 hp1
    refine ld_oneB (k := .str) (x := c) (cells 1 _ rfl) o ?_
    refine idx_rdN hs rfl hil fun p2 hp2 _ => ?_
    cases at' p2 hp2
    refine ld_oneB (k := .sl) (x := x) (cells 2 _ rfl) o ?_
    refine idx_rdN hs rfl hil fun p3 hp3 _ => ?_
    cases at' p3 hp3
    refine ld_oneB (k := .agg 3) (x := #[.int .i64 k, .string b, .int .i64 n]) (hb := h) ⟨rfl, fun j v hj => ?_⟩ o ?_
    · rw [Addr.add_add]
      rcases j with _ | _ | _ | j
      · exact cells 3 v hj
      · exact cells 4 v hj
      · exact cells 5 v hj
      · simp at hj
    refine bst_obj ?_
    refine app1_flat (v := .agg _) (x := l[i]) S (fun _ => ⟨by rw [e]; rfl, rfl, (ok_one ⟨_, _, _, _, _, _, e⟩).1, (ok_one ⟨_, _, _, _, _, _, e⟩).2, ⟨_, _, _, _, _, _, e⟩⟩) rfl (by decide) (by simp only [List.length_take, si_Llateenref22_Obj]; omega) (by simp only [List.length_take]; omega) fun s' h' S' => ?_
    refine ar_i64 (by omega) (by have := hs.bound; omega) ⟨l.length - (i + 1), by omega, i + 1, rfl, by omega, rfl, ?_⟩
    rw [List.take_succ_eq_append_getElem hil]
    exact S'
  · have hil : l.length ≤ i := by rw [hl] at hc; simpa using hc
    rw [List.take_of_length_le hil] at S
    exact ⟨out, rfl, S⟩

/-- Back, of a list that owns: what it owns goes over. -/
theorem back_own {hb h : Heap} {E : Elem MObj} {X : List As} {s : Sl} {l : List MObj} (h6 : E.size = 6) (hok : ∀ {x a h f}, E.own x a h f → okObj x) (S : Fw.Sep hb h (ownSl si_Lvstate_Obj E s l :: X)) (hn : l.length ≤ 1000000) :
    ACalls Try.prog F_lateenlaw22_Back [s.v] h (fun v h' => ∃ s' : Sl, v = s'.v ∧ Fw.Sep hb h' (ownSl si_Llateenref22_Obj E s' l :: X)) := by
  obtain ⟨L, S1, hL⟩ := S.cells (E := E) (ok := okObj) hok
  rw [h6] at S1
  refine (back_raw (s := s) (l := L) S1.rd (by omega)).mono ?_
  rintro v h' ⟨s', rfl, S2⟩
  refine ⟨s', rfl, ?_⟩
  have S3 := S1.frame S2
  exact Sep.whole (E := E) (ok := okObj) (by rw [h6]; exact Sep.drop (A := ownSl si_Lvstate_Obj (eCells 6 okObj) s L) (S3.perm (List.Perm.swap _ _ _)))

end Go.Proofs.Ytncbpalncgcoaaa
