/-
  lateenref20: down, Order, Ways, Parts, Round.
-/
import Derived.Test.YtjpjnpbjalmhiaaFnHelp
import Derived.Test.YtjpjnpbjalmhiaaFnCalls4
namespace Go.Proofs.Ytjpjnpbjalmhiaa
open Go.Fw Go.Pl

theorem partsF_P (G : Graph) : PartsP G (partsF G) := by
  refine ⟨by simp [partsF], fun v hv => ?_⟩
  have hv' : v < G.length := by simpa [partsF] using hv
  obtain ⟨h1, h2⟩ := lst_spec hv' v (Nat.le_refl _)
  exact ⟨lst G v v, by simp [partsF], h1, fun d hd => h2 d (by omega) (mut_lt hv' hd) hd⟩
theorem roundF_P (G : Graph) : RoundP G (roundF G) := by
  refine ⟨by simp [roundF], fun v hv => ?_⟩
  have hv' : v < G.length := by simpa [roundF] using hv
  rw [show (roundF G)[v] = wayB G v v from by simp [roundF]]
  exact way_cyc hv'
theorem cparts_calls {h : Heap} {g : Sl} {G : Graph} (hg : rdSl eInts h g G) (hn : G.length ≤ 1000) :
    ACalls Try.prog F_calls_Parts [g.v] h (fun v h' => ∃ s : Sl, v = s.v ∧ Fw.Sep h h' [ownSl si_Lint eInt s (partsF G)]) := by
  refine (parts_calls hg hn).mono ?_
  rintro v h1 ⟨s, Pt, rfl, hP, S⟩
  rw [hP.unique (partsF_P G)] at S
  exact ⟨s, rfl, S⟩
theorem cround_calls {h : Heap} {g : Sl} {G : Graph} (hg : rdSl eInts h g G) (hn : G.length ≤ 1000) :
    ACalls Try.prog F_calls_Round [g.v] h (fun v h' => ∃ s : Sl, v = s.v ∧ Fw.Sep h h' [ownSl si_Lbool eBool s (roundF G)]) := by
  refine (round_calls hg hn).mono ?_
  rintro v h1 ⟨s, Pt, rfl, hP, S⟩
  rw [hP.unique (roundF_P G)] at S
  exact ⟨s, rfl, S⟩

theorem st_row2 {α : Type} {si ri : SlI} {E : Elem α} {h0 h : Heap} {L : List As} {s x : Sl} {p : Addr} {ll : List (List α)} {i k m : Nat} {vs : List Value} {u : α} {K : Heap → Prop}
    (S : Fw.Sep h0 h (ownSl si (Elem.sl ri E) s ll :: L)) (hi : i < ll.length) (hk : k < ll[i].length) (hm : m = E.size) (hu : ∀ h, E.own vs u h []) (hat : At (Elem.sl ri E).size s i p) (hp : hcell h p = some x.v)
    (hK : ∀ h', Fw.Sep h0 h' (ownSl si (Elem.sl ri E) s (ll.set i (ll[i].set k u)) :: L) → K h') :
    idx m x (k : Int) fun p3 => st vs h p3 K := by
  obtain ⟨xs, hc, S2⟩ := (Sep.raw.2 S).away (i := i) (x := ll[i]) (by simpa using hi) (by simp)
  obtain ⟨y, rfl, S3⟩ := S2.swap.ofEl
  have e := hc p hat 0 y.v rfl
  rw [Addr.add_zero', hp] at e
  have e := Sl.v_inj (Option.some.inj e)
  subst e
  refine idx_rdN S3.rd hm hk fun p3 hat3 _ => ?_
  subst hm
  refine st_flat S3 hu hat3 rfl hk fun h' S4 => hK h' ?_
  have S5 := S4.toEl.swap.back (i := i) (by simpa using hi) (by simp; rfl)
  refine Sep.raw.1 (S5.cast ?_)
  congr 2
  rw [List.set_set, List.map_set]

end Go.Proofs.Ytjpjnpbjalmhiaa
