/-
  Objects of a state, as they lie.
-/
import Derived.Test.YtojdbliehgejbaaDoorFwApi
import Derived.Test.YtojdbliehgejbaaDoorFwBox
import Derived.Test.YtojdbliehgejbaaDoorFwApi2
import Derived.Test.YtojdbliehgejbaaDoorPlVst
import Derived.KernelRfl
namespace Go.Fw
open Go.Pl.Api Go.Pl.Vst

def rObj : RV MObj := (rInt.two (rStr.two (rArg.sl.two (rArg.two RV.unit)))).via fun a => (a.id, a.cls, a.vals, a.real, ())
theorem fld_argKind : Fld rArg rInt 0 MArg.kind := Fld.fst.via
theorem fld_argS' : Fld rArg rStr 1 MArg.s := (Fld.snd.trans Fld.fst rfl).via
theorem fld_oId : Fld rObj rInt 0 MObj.id := Fld.fst.via
theorem fld_oCls : Fld rObj rStr 1 MObj.cls := (Fld.snd.trans Fld.fst rfl).via
theorem fld_oVals : Fld rObj rArg.sl 2 MObj.vals := (Fld.snd.trans (Fld.snd.trans Fld.fst rfl) rfl).via
theorem fld_oReal : Fld rObj rArg 3 MObj.real := (Fld.snd.trans (Fld.snd.trans (Fld.snd.trans Fld.fst rfl) rfl) rfl).via

/-- An argument's cells. -/
theorem rv_arg {h : Heap} {cs : List Value} {a : MArg} : rArg.rv h cs a ↔ cs = [.int .i64 a.kind, .string a.s, .int .i64 a.n] := by
  constructor
  · rintro ⟨c1, c2, rfl, h1, c3, c4, rfl, h2, c5, c6, rfl, h3, h4⟩
    have h1 : c1 = [.int .i64 a.kind] := h1
    have h2 : c3 = [.string a.s] := h2
    have h3 : c5 = [.int .i64 a.n] := h3
    have h4 : c6 = [] := h4
    subst h1 h2 h3 h4
    rfl
  · rintro rfl
    exact ⟨[.int .i64 a.kind], [.string a.s, .int .i64 a.n], rfl, rfl, [.string a.s], [.int .i64 a.n], rfl, rfl, [.int .i64 a.n], [], rfl, rfl, rfl⟩
/-- An object's cells. -/
theorem rv_obj {h : Heap} {cs : List Value} {o : MObj} : rObj.rv h cs o ↔ ∃ s : Sl, cs = [.int .i64 o.id, .string o.cls, s.v, .int .i64 o.real.kind, .string o.real.s, .int .i64 o.real.n] ∧ rdSl rArg.el h s o.vals := by
  constructor
  · rintro ⟨c1, c2, rfl, h1, c3, c4, rfl, h2, c5, c6, rfl, h3, c7, c8, rfl, h5, h6⟩
    have h1 : c1 = [.int .i64 o.id] := h1
    have h2 : c3 = [.string o.cls] := h2
    have h6 : c8 = [] := h6
    have h5 := rv_arg.1 h5
    obtain ⟨s, h3, h4⟩ := h3
    subst h1 h2 h3 h6 h5
    exact ⟨s, rfl, h4⟩
  · rintro ⟨s, rfl, hs⟩
    refine ⟨[.int .i64 o.id], _, rfl, rfl, [.string o.cls], _, rfl, rfl, [s.v], _, rfl, ⟨s, rfl, hs⟩, [.int .i64 o.real.kind, .string o.real.s, .int .i64 o.real.n], [], rfl, ?_, rfl⟩
    exact rv_arg.2 rfl
def argC (a : MArg) : List Value := [.int .i64 a.kind, .string a.s, .int .i64 a.n]
/-- Arguments of one's own. -/
def eArg : Elem MArg where
  size := 3
  own xs a _ f := xs = argC a ∧ f = []
  rd := rArg.el.rd
  len o := by rw [o.1]; rfl
  one o v hv := by
    rw [o.1] at hv
    simp [argC] at hv
    rcases hv with rfl | rfl | rfl <;> rfl
  loc o _ := o
  toRd o hs hc := ⟨hs, _, hc, rv_arg.2 o.1⟩
  ext := rArg.el.ext
theorem flat_arg : eArg.Flat := ⟨fun {h p x} r _ => by
  obtain ⟨_, cs, hc, hr⟩ := r
  exact ⟨cs, fun _ => ⟨rv_arg.1 hr, rfl⟩, hc⟩⟩
theorem own_arg (a : MArg) (h : Heap) : eArg.own (argC a) a h [] := ⟨rfl, rfl⟩
theorem rd_arg {h : Heap} {s : Sl} {l : List MArg} : rdSl eArg h s l ↔ rdSl rArg.el h s l := Iff.rfl
theorem ownSl_rd {α : Type} {si : SlI} {E : Elem α} {h : Heap} {s : Sl} {l : List α} {f : List Nat} (o : ownSl si E s l h f) : rdSl E h s l := by
  have hf : Sep #[] h [] := ⟨⟨by simp, by simp⟩, by simp, [], rfl, by simp, by simp⟩
  obtain ⟨hsz, vs, f', ho, hl, hm, hr, rfl⟩ := o
  rcases hOwn_iff.1 ho with ⟨h1, h2 | ⟨g, cur, h2, h3, h4, h5, h6, h7⟩⟩
  · subst h2
    have : l = [] := List.length_eq_zero_iff.1 hl.symm
    subst this
    exact ⟨rfl, Nat.le_refl _, by simp, fun _ => rfl, .inl rfl⟩
  · refine ⟨hl, h4, by omega, fun e => (by rw [h2] at e; cases e), .inr ⟨_, h2, rfl, ?_⟩⟩
    have hc := hOwn_cells ho h2
    exact hr.rd rfl hc.2
/-- Objects of one's own, their fields too. 'si': of []api.Arg. -/
def eObj (si : SlI) : Elem MObj where
  size := 6
  own xs o h f := ∃ s : Sl, xs = [.int .i64 o.id, .string o.cls, s.v, .int .i64 o.real.kind, .string o.real.s, .int .i64 o.real.n] ∧ ownSl si eArg s o.vals h f
  rd := rObj.el.rd
  len o := by obtain ⟨s, rfl, _⟩ := o; rfl
  one o v hv := by
    obtain ⟨s, rfl, _⟩ := o
    simp at hv
    rcases hv with rfl | rfl | rfl | rfl | rfl | rfl <;> rfl
  loc o hb := by obtain ⟨s, h1, h2⟩ := o; exact ⟨s, h1, loc_ownSl h2 hb⟩
  toRd o hs hc := by
    obtain ⟨s, h1, h2⟩ := o
    exact ⟨hs, _, hc, rv_obj.2 ⟨s, h1, rd_arg.1 (ownSl_rd h2)⟩⟩
  ext := rObj.el.ext
theorem rd_obj {si : SlI} {h : Heap} {s : Sl} {l : List MObj} : rdSl (eObj si) h s l ↔ rdSl rObj.el h s l := Iff.rfl
/-- Equality of arguments, as it is told. -/
theorem cells_arg {h : Heap} {cs : Array Value} {a : MArg} (r : rArg.rv h cs.toList a) : cellsAre [.int .i64, .str, .int .i64] cs.toList := by
  rw [rv_arg.1 r]
  exact ⟨⟨_, rfl⟩, ⟨_, rfl⟩, ⟨_, rfl⟩, trivial⟩
theorem toList_beq {a b : ByteArray} : (a.toList == b.toList) = decide (a = b) := by
  rw [ByteArray.toList_eq, ByteArray.toList_eq]
  by_cases e : a = b
  · subst e; simp
  · rw [decide_eq_false e]
    refine beq_eq_false_iff_ne.2 fun h => e ?_
    obtain ⟨⟨x⟩⟩ := a
    obtain ⟨⟨y⟩⟩ := b
    simp at h
    rw [h]
theorem eq_arg {h h' : Heap} {c d : Array Value} {a b : MArg} {K : Bool → Prop} (ra : rArg.rv h c.toList a) (rb : rArg.rv h' d.toList b) (hK : K (decide (a = b))) : eqA [.int .i64, .str, .int .i64] c d K := by
  refine ⟨cells_arg ra, cells_arg rb, ?_⟩
  have : cellsEq c.toList d.toList = decide (a = b) := by
    rw [rv_arg.1 ra, rv_arg.1 rb]
    obtain ⟨k1, s1, n1⟩ := a
    obtain ⟨k2, s2, n2⟩ := b
    simp only [cellsEq, cellEq, toList_beq, MArg.mk.injEq]
    by_cases e1 : k1 = k2 <;> by_cases e2 : s1 = s2 <;> by_cases e3 : n1 = n2 <;> simp [e1, e2, e3]
  rw [this]
  exact hK

/-- All of a box is written. -/
theorem st_allB {h0 h : Heap} {p : Addr} {cs ds : Array Value} {L : List As} {n : Nat} {K : Heap → Prop} (S : Sep h0 h (rawB p cs :: L)) (hc : cs.size = n) (hd : ds.size = n) (h1 : ∀ v ∈ ds.toList, v.oneCell' = true)
    (hK : ∀ h', Sep h0 h' (rawB p ds :: L) → K h') : ds.size = n ∧ st ds.toList h p K := by
  refine ⟨hd, ?_⟩
  have e : putAt cs 0 ds.toList = ds := by
    have hp := putAt_eq ds.toList cs 0 (by simp; omega)
    simp only [List.take_zero, List.nil_append, Nat.zero_add] at hp
    rw [List.drop_of_length_le (by simp; omega), List.append_nil] at hp
    exact Array.toList_inj.1 hp
  have := st_rawsB (i := 0) (vs := ds.toList) (K := K) S (by simp; omega) h1 (fun h' S' => by
    rw [e] at S'
    exact hK h' S')
  rw [Addr.add_zero'] at this
  exact this
theorem rv_zObj {h : Heap} : rObj.rv h [.int .i64 0, .string ⟨#[]⟩, .slice none 0 0, .int .i64 0, .string ⟨#[]⟩, .int .i64 0] zObj :=
  rv_obj.2 ⟨⟨none, 0, 0⟩, rfl, ⟨rfl, Nat.le_refl _, by simp [zObj], fun _ => rfl, .inl rfl⟩⟩
theorem rv_zArg {h : Heap} : rArg.rv h [.int .i64 0, .string ⟨#[]⟩, .int .i64 0] zArg := rv_arg.2 rfl
theorem size_rv {α : Type} {E : RV α} {h : Heap} {cs : Array Value} {x : α} (r : E.rv h cs.toList x) : cs.size = E.size := by have := E.len r; simpa using this
/-- A field of a box. -/
theorem arr_arg {h : Heap} {cs : Array Value} {a : MArg} (r : rArg.rv h cs.toList a) : cs = #[.int .i64 a.kind, .string a.s, .int .i64 a.n] := Array.toList_inj.1 (rv_arg.1 r)
theorem arr_obj {h : Heap} {cs : Array Value} {o : MObj} (r : rObj.rv h cs.toList o) : ∃ s : Sl, cs = #[.int .i64 o.id, .string o.cls, s.v, .int .i64 o.real.kind, .string o.real.s, .int .i64 o.real.n] ∧ rdSl rArg.el h s o.vals := by
  obtain ⟨s, h1, h2⟩ := rv_obj.1 r
  exact ⟨s, Array.toList_inj.1 h1, h2⟩

theorem bst_obj {id k n : Int} {cls b : ByteArray} {s : Sl} {K : Array Value → Prop} (h : K #[.int .i64 id, .string cls, s.v, .int .i64 k, .string b, .int .i64 n]) :
    bst [(0, 1), (1, 1), (2, 1), (3, 3)] #[.int .i64 0, .string ⟨#[]⟩, .slice none 0 0, .int .i64 0, .string ⟨#[]⟩, .int .i64 0] [(0, .int .i64 id), (1, .string cls), (2, s.v), (3, .agg #[.int .i64 k, .string b, .int .i64 n])] K :=
  ⟨_, by kernel_rfl, h⟩
theorem bst_ref {n : Int} {K : Array Value → Prop} (h : K #[.int .i64 5, .string ⟨#[]⟩, .int .i64 n]) :
    bst [(0, 1), (1, 1), (2, 1)] #[.int .i64 0, .string ⟨#[]⟩, .int .i64 0] [(0, .int .i64 5), (2, .int .i64 n)] K := ⟨_, by kernel_rfl, h⟩
theorem bst_kind {k : Int} {K : Array Value → Prop} (h : K #[.int .i64 k, .string ⟨#[]⟩, .int .i64 0]) :
    bst [(0, 1), (1, 1), (2, 1)] #[.int .i64 0, .string ⟨#[]⟩, .int .i64 0] [(0, .int .i64 k)] K := ⟨_, by kernel_rfl, h⟩

def bObj (o : MObj) : Prop := bInt o.id ∧ bStr o.cls ∧ bL bArg o.vals ∧ bArg o.real ∧ True

end Go.Fw
