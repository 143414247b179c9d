/-
  dom.Dominates, the document's Frontier.
-/
import Derived.Test.YtniflhbfnkadhaaFnDom4
namespace Go.Proofs.Ytniflhbfnkadhaa
open Go.Fw Go.Pl

theorem order_len (G : Graph) : (orderOf G).length ≤ G.length := by
  unfold orderOf search
  rw [List.length_reverse]
  split
  · simp
  · rename_i h
    have hG : 0 < G.length := List.length_pos_iff.2 h
    have := dn_sum G G.length 0 (List.replicate G.length false) [] (by simp) (by simpa using hG) (by simp [List.getD_eq_getElem?_getD, List.getElem?_replicate, hG])
    have h2 : open' (List.replicate G.length false) = G.length := by unfold open'; simp
    simp only [List.length_nil] at this
    omega

/-- Dominates, said of a graph. -/
def DomI (G : Graph) (a b : Int) : Prop := ∃ x y : Nat, a = x ∧ b = y ∧ x < G.length ∧ y < G.length ∧ (x = y ∨ Dm G x y)

theorem dominates_calls {h : Heap} {near : Sl} {G : Graph} (hN : rdSl eInt h near (nearF G)) (hn : G.length ≤ 1000) (a b : Int) :
    ACalls Try.prog F_dom_Dominates [near.v, .int .i64 a, .int .i64 b] h (fun v h' => h' = h ∧ ∃ r, v = .bool r ∧ (r = true ↔ DomI G a b)) := by
  refine dom_Dominates_of ?_
  unfold dom_Dominates
  have hl := hN.lenEq
  rw [nearF_len] at hl
  have R := rk_ok G
  intro k hk
  have bad : (a < 0 ∨ a ≥ G.length ∨ b < 0 ∨ b ≥ G.length) → k true h := fun hb => hk _ _ fun _ => ifB_true rfl ⟨rfl, false, rfl, (fun h => by cases h), by
    rintro ⟨x, y, rfl, rfl, hx, hy, _⟩; omega⟩
  refine ifB_intro (fun h1 => bad (.inl (of_decide_eq_true h1))) (fun h1 => ?_)
  refine ifB_intro (fun h2 => bad (.inr (.inl (by rw [← hl]; exact of_decide_eq_true h2)))) (fun h2 => ?_)
  refine ifB_intro (fun h3 => bad (.inr (.inr (.inl (of_decide_eq_true h3))))) (fun h3 => ?_)
  cases h4 : decide (b ≥ (near.len : Int)) with
  | true => exact bad (.inr (.inr (.inr (by rw [← hl]; exact of_decide_eq_true h4))))
  | false =>
    have h1 := of_decide_eq_false h1
    have h2 := of_decide_eq_false h2
    have h3 := of_decide_eq_false h3
    have h4 := of_decide_eq_false h4
    clear bad
    refine hk _ _ fun _ => ifB_false rfl ?_
    clear hk k
    obtain ⟨x, rfl⟩ := Int.eq_ofNat_of_zero_le (a := a) (by omega)
    obtain ⟨y, rfl⟩ := Int.eq_ofNat_of_zero_le (a := b) (by omega)
    have hx : x < G.length := by omega
    have hy : y < G.length := by omega
    have ol := order_len G
    have key : DomI G (x : Int) (y : Int) ↔ (x = y ∨ Dm G x y) := ⟨fun ⟨x', y', e1, e2, _, _, h⟩ => by
      have : x' = x := by omega
      have : y' = y := by omega
      subst x' y'; exact h, fun h => ⟨x, y, rfl, rfl, hx, hy, h⟩⟩
    refine loop_intro (fun m (q : Int × Int) h' => ∃ c : Nat, q.2 = c ∧ m = 2 * G.length - c ∧ c ≤ G.length ∧ h = h' ∧ ((q.1 = -1 ∧ ¬ (x = y ∨ Dm G x y)) ∨ ∃ u : Nat, q.1 = u ∧ u < G.length ∧ ((x = y ∨ Dm G x y) ↔ (x = u ∨ Dm G x u)) ∧ (c = 0 ∨ (Rch G u ∧ c + rkOf G u < G.length)))) (2 * G.length)
      ⟨0, rfl, by omega, by omega, rfl, .inr ⟨y, rfl, hy, Iff.rfl, .inl rfl⟩⟩ ?_
    rintro _ _ ⟨v, c⟩ _ ⟨c, hc0, rfl, hcn, rfl, hv⟩
    simp only at hc0 hv ⊢
    subst hc0
    intro k hk
    have out : ¬ (x = y ∨ Dm G x y) → k false h := fun hno => hk _ _ fun _ => ifB_false rfl ⟨rfl, false, rfl, (fun h => by cases h), fun h => absurd (key.1 h) hno⟩
    rcases hv with ⟨rfl, hno⟩ | ⟨u, rfl, hun, hiff, hor⟩
    · refine ifB_true (decide_eq_true (by omega)) (ifB_false (decide_eq_false (by omega)) (out hno))
    · clear out
      have hcu : c < G.length := by
        rcases hor with h | h
        · omega
        · omega
      refine ifB_true (decide_eq_true (by omega)) (ifB_true (decide_eq_true (by omega)) ?_)
      rw [decide_eq_true (show (u : Int) < (near.len : Int) by omega)]
      refine hk _ _ fun _ => ifB_true rfl ?_
      refine ifB_intro (fun he => ?_) (fun he => ?_)
      · have hxu : x = u := by
          have : (x : Int) = u := by simpa using he
          omega
        exact ⟨rfl, true, rfl, fun _ => key.2 (hiff.2 (.inl hxu)), fun _ => rfl⟩
      · have hxu : x ≠ u := fun e => by subst e; simp at he
        have hul : u < (nearF G).length := by rw [nearF_len]; exact hun
        refine idx_rdN hN rfl hul fun p _ hp => ld_one hp ?_
        have hnr := nearF_at hul
        refine ar_i64 (by omega) (by omega) ⟨2 * G.length - (c + 1), by omega, c + 1, rfl, rfl, by omega, rfl, ?_⟩
        rcases hnr with ⟨e, hnone⟩ | ⟨d, e, hd1, hd2, hd3⟩
        · refine .inl ⟨e, fun h => ?_⟩
          rcases hiff.1 h with h | h
          · exact hxu h
          · exact hxu (hnone x h)
        · refine .inr ⟨d, e, hd1.1.lt, ?_, .inr ⟨hd1.1, ?_⟩⟩
          · rw [hiff]
            constructor
            · rintro (h | h)
              · exact absurd h hxu
              · exact .inr (hd3 x h hxu)
            · rintro (h | h)
              · subst h; exact .inr hd1
              · exact .inr (h.trans hd1)
          · have := dom_lt R hd1 hd2
            have hur := hd1.2.1
            obtain ⟨hb, _⟩ := rk_spec hur
            rcases hor with h | h
            · omega
            · omega

theorem frontF_len (G : Graph) : (frontF G).length = G.length := by simp [frontF]
end Go.Proofs.Ytniflhbfnkadhaa
