/-
  The program's data of one's own: variables, classes, instructions (their arguments too).
-/
import Derived.Test.YtojdbliehgejbaaDoorFwVst
namespace Go.Fw
open Go.Pl.Api Go.Pl.Vst

theorem rv_var {h : Heap} {cs : List Value} {a : MVar} : rVar.rv h cs a ↔ cs = [.string a.name, .string a.type] := by
  constructor
  · rintro ⟨c1, c2, rfl, h1, c3, c4, rfl, h2, h3⟩
    have h1 : c1 = [.string a.name] := h1
    have h2 : c3 = [.string a.type] := h2
    have h3 : c4 = [] := h3
    subst h1 h2 h3
    rfl
  · rintro rfl
    exact ⟨[.string a.name], _, rfl, rfl, [.string a.type], _, rfl, rfl, rfl⟩
theorem rv_class {h : Heap} {cs : List Value} {c : MClass} : rClass.rv h cs c ↔ ∃ s : Sl, cs = [.string c.name, s.v] ∧ rdSl rVar.el h s c.fields := by
  constructor
  · rintro ⟨c1, c2, rfl, h1, c3, c4, rfl, h2, h3⟩
    have h1 : c1 = [.string c.name] := h1
    have h3 : c4 = [] := h3
    obtain ⟨s, h2, h4⟩ := h2
    subst h1 h2 h3
    exact ⟨s, rfl, h4⟩
  · rintro ⟨s, rfl, hs⟩
    exact ⟨[.string c.name], _, rfl, rfl, [s.v], _, rfl, ⟨s, rfl, hs⟩, rfl⟩
theorem rd_nilSl {α : Type} {E : Elem α} {h : Heap} : rdSl E h (⟨none, 0, 0⟩ : Sl) [] := ⟨rfl, Nat.le_refl _, by simp, fun _ => rfl, .inl rfl⟩
theorem rv_prog {h : Heap} {cs : List Value} {p : MProg} {s1 s2 s3 s4 : Sl} (h1 : rdSl rClass.el h s1 p.classes) (h2 : rdSl rVar.el h s2 p.globals) (h3 : rdSl rExtern.el h s3 p.externs) (h4 : rdSl rFunc.el h s4 p.funcs)
    (e : cs = [.bool p.ssa, s1.v, s2.v, s3.v, s4.v]) : rProg.rv h cs p := by
  subst e
  exact ⟨[.bool p.ssa], _, rfl, rfl, [s1.v], _, rfl, ⟨s1, rfl, h1⟩, [s2.v], _, rfl, ⟨s2, rfl, h2⟩, [s3.v], _, rfl, ⟨s3, rfl, h3⟩, [s4.v], _, rfl, ⟨s4, rfl, h4⟩, rfl⟩
def varC (a : MVar) : List Value := [.string a.name, .string a.type]
def eVar : Elem MVar where
  size := 2
  own xs a _ f := xs = varC a ∧ f = []
  rd := rVar.el.rd
  len o := by rw [o.1]; rfl
  one o v hv := by
    rw [o.1] at hv
    simp [varC] at hv
    rcases hv with rfl | rfl <;> rfl
  loc o _ := o
  toRd o hs hc := ⟨hs, _, hc, rv_var.2 o.1⟩
  ext := rVar.el.ext
theorem own_var (a : MVar) (h : Heap) : eVar.own (varC a) a h [] := ⟨rfl, rfl⟩
/-- 'si': of []api.Var. -/
def eCls (si : SlI) : Elem MClass where
  size := 2
  own xs c h f := ∃ s : Sl, xs = [.string c.name, s.v] ∧ ownSl si eVar s c.fields h f
  rd := rClass.el.rd
  len o := by obtain ⟨s, rfl, _⟩ := o; rfl
  one o v hv := by
    obtain ⟨s, rfl, _⟩ := o
    simp at hv
    rcases hv with rfl | rfl <;> rfl
  loc o hb := by obtain ⟨s, h1, h2⟩ := o; exact ⟨s, h1, loc_ownSl h2 hb⟩
  toRd o hs hc := by
    obtain ⟨s, h1, h2⟩ := o
    have h3 : rdSl eVar _ s _ := ownSl_rd h2
    exact ⟨hs, _, hc, rv_class.2 ⟨s, h1, h3⟩⟩
  ext := rClass.el.ext
theorem rv_instr {h : Heap} {cs : List Value} {x : MInstr} : rInstr.rv h cs x ↔ ∃ s t u : Sl, cs = [.int .i64 x.op, .string x.dst, .string x.name, s.v, t.v, u.v] ∧ rdSl rArg.el h s x.args ∧ rdSl rStand.el h t x.stands ∧ rdSl rVirt.el h u x.objs := by
  constructor
  · rintro ⟨c1, c2, rfl, h1, c3, c4, rfl, h2, c5, c6, rfl, h3, c7, c8, rfl, h5, c9, c10, rfl, h6, c11, c12, rfl, h7, h8⟩
    have h1 : c1 = [.int .i64 x.op] := h1
    have h2 : c3 = [.string x.dst] := h2
    have h3 : c5 = [.string x.name] := h3
    have h8 : c12 = [] := h8
    obtain ⟨s, h5, h5'⟩ := h5
    obtain ⟨t, h6, h6'⟩ := h6
    obtain ⟨u, h7, h7'⟩ := h7
    subst h1 h2 h3 h5 h6 h7 h8
    exact ⟨s, t, u, rfl, h5', h6', h7'⟩
  · rintro ⟨s, t, u, rfl, h1, h2, h3⟩
    exact ⟨[.int .i64 x.op], _, rfl, rfl, [.string x.dst], _, rfl, rfl, [.string x.name], _, rfl, rfl, [s.v], _, rfl, ⟨s, rfl, h1⟩, [t.v], _, rfl, ⟨t, rfl, h2⟩, [u.v], _, rfl, ⟨u, rfl, h3⟩, rfl⟩
def insC (x : MInstr) (s : Sl) : List Value := [.int .i64 x.op, .string x.dst, .string x.name, s.v, .slice none 0 0, .slice none 0 0]
/-- Instructions without frames and objects; their arguments are owned. 'si': of []api.Arg. -/
def eIns (si : SlI) : Elem MInstr where
  size := 6
  own xs x h f := ∃ s : Sl, xs = insC x s ∧ x.stands = [] ∧ x.objs = [] ∧ ownSl si eArg s x.args h f
  rd := rInstr.el.rd
  len o := by obtain ⟨s, rfl, _⟩ := o; rfl
  one o v hv := by
    obtain ⟨s, rfl, _⟩ := o
    simp [insC] at hv
    rcases hv with rfl | rfl | rfl | rfl | rfl <;> rfl
  loc o hb := by obtain ⟨s, h1, h2, h3, h4⟩ := o; exact ⟨s, h1, h2, h3, loc_ownSl h4 hb⟩
  toRd o hs hc := by
    obtain ⟨s, h1, h2, h3, h4⟩ := o
    exact ⟨hs, _, hc, rv_instr.2 ⟨s, ⟨none, 0, 0⟩, ⟨none, 0, 0⟩, h1, rd_arg.1 (ownSl_rd h4), by rw [h2]; exact rd_nilSl, by rw [h3]; exact rd_nilSl⟩⟩
  ext := rInstr.el.ext

end Go.Fw
