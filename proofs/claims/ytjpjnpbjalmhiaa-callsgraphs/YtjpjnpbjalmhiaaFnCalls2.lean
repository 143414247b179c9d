/-
  calls: going down from a point.
-/
import Derived.Test.YtjpjnpbjalmhiaaFnCalls
namespace Go.Proofs.Ytjpjnpbjalmhiaa
open Go.Fw Go.Pl

/-- The walker's lists say what is known. -/
structure WS (G : Graph) (T : TS) (R L Pt : List Int) (Rd M : List Bool) : Prop where
  lR : R.length = G.length
  lL : L.length = G.length
  lP : Pt.length = G.length
  lD : Rd.length = G.length
  lM : M.length = G.length
  r : ∀ v, v < G.length → R.getD v 0 = (T.rank v : Int)
  l : ∀ v, v < G.length → L.getD v 0 = (T.low v : Int)
  p : ∀ v, v < G.length → Pt.getD v (-1) = T.part v
  d : ∀ v, v < G.length → Rd.getD v false = T.rnd v
  k : ∀ v, v < G.length → (M.getD v false = false ↔ T.rank v = 0)
  op : T.O.length ≤ T.m
  cnt : T.m + open' M = G.length
theorem getD_setX {α : Type} {l : List α} {k : Nat} {x d : α} (hk : k < l.length) (v : Nat) : (l.set k x).getD v d = if v = k then x else l.getD v d := by
  rw [List.getD_eq_getElem?_getD, List.getD_eq_getElem?_getD, List.getElem?_set]
  by_cases e : k = v
  · subst e; simp [hk]
  · have e' : ¬ v = k := fun h => e h.symm
    simp [e, e']

theorem dn_unw {G : Graph} {f a : Nat} {M : List Bool} {l : List Int} (hn : G.length = f + 1) (hM : M.length = G.length) (ha : a < G.length) (hm : M.getD a false = false) (ho : open' M ≤ f + 1) :
    unw G (f + 1) [(a, 0)] (M.set a true, l) = dn G (f + 1) a M l := by
  have hc := count_set (M := M) (a := a) (by omega) (by simpa [List.getD_eq_getElem?_getD, show a < M.length by omega] using hm)
  have e2 := foldl_congr_on (n := G.length) (go := dn G (f + 1)) (go' := dn G f) (open' (M.set a true)) (fun k s => dn_grows G (f + 1) k s) M.length
    (fun j t hj htl htm hb => dn_fuel G (f + 1) f j t.1 t.2 (by omega) (by omega) htm (by omega) (by omega)) (G.getD a []) (M.set a true, l) (by simp) (Nat.le_refl _)
  conv => lhs; unfold unw; unfold unw
  conv => rhs; unfold dn
  simp only [List.drop_zero, e2]

variable {h0 h : Heap} {p : Addr} {g r l pt o lf rd : Sl} {R L Pt O LF : List Int} {Rd : List Bool} {X : List As}
abbrev castL (l : List Nat) : List Int := l.map fun (x : Nat) => (x : Int)

theorem WS.push {G : Graph} {T : TS} {R L Pt : List Int} {Rd M : List Bool} (w : WS G T R L Pt Rd M) {k : Nat} (hk : k < G.length) (h0 : T.rank k = 0) (st' : List (Nat × Nat)) :
    WS G ⟨upF T.rank k (T.m + 1), upF T.low k (T.m + 1), T.part, T.rnd, T.O ++ [k], st', T.m + 1⟩ (R.set k ((T.m + 1 : Nat) : Int)) (L.set k ((T.m + 1 : Nat) : Int)) Pt Rd (M.set k true) := by
  have hkR : k < R.length := by rw [w.lR]; exact hk
  have hkL : k < L.length := by rw [w.lL]; exact hk
  have hkM : k < M.length := by rw [w.lM]; exact hk
  have hc := count_set hkM (by have := (w.k k hk).2 h0; rwa [getD_lt hkM] at this)
  refine ⟨by simpa using w.lR, by simpa using w.lL, w.lP, w.lD, by simpa using w.lM, fun v hv => ?_, fun v hv => ?_, w.p, w.d, fun v hv => ?_, by have := w.op; simp; omega, by have := w.cnt; show T.m + 1 + _ = _; omega⟩
  · rw [getD_setX hkR]
    show _ = ((upF T.rank k (T.m + 1) v : Nat) : Int)
    unfold upF
    split
    · rfl
    · exact w.r v hv
  · rw [getD_setX hkL]
    show _ = ((upF T.low k (T.m + 1) v : Nat) : Int)
    unfold upF
    split
    · rfl
    · exact w.l v hv
  · rw [getD_setX hkM]
    show _ ↔ upF T.rank k (T.m + 1) v = 0
    unfold upF
    split
    · simp
    · exact w.k v hv

end Go.Proofs.Ytjpjnpbjalmhiaa
