/-
  Memory that stays; what a call owns.
-/
import Derived.WalkKit
namespace Go.Fw

abbrev Heap := Array Obj

/-! ### Memory that stays -/

/-- What was there is there, unturned. -/
structure Old (h h' : Heap) : Prop where
  size : h.size ≤ h'.size
  block : ∀ b, b < h.size → h'[b]? = h[b]?
theorem Old.refl (h : Heap) : Old h h := ⟨Nat.le_refl _, fun _ _ => rfl⟩
theorem Old.trans {a b c : Heap} (h : Old a b) (k : Old b c) : Old a c :=
  ⟨Nat.le_trans h.size k.size, fun x hx => (k.block x (Nat.lt_of_lt_of_le hx h.size)).trans (h.block x hx)⟩
theorem Old.push (h : Heap) (o : Obj) : Old h (h.push o) := ⟨by simp, fun b hb => by rw [Array.getElem?_push_lt hb]; exact (Array.getElem?_eq_getElem hb).symm⟩

/-! ### All that a call owns -/

abbrev As := Heap → List Nat → Prop
def Owns : List As → Heap → List Nat → Prop
  | [], _, f => f = []
  | A :: L, h, f => ∃ f1 f2, f = f1 ++ f2 ∧ A h f1 ∧ Owns L h f2
/-- Assertions that hang on their blocks alone. -/
def Loc (A : As) : Prop := ∀ {h h' : Heap} {f : List Nat}, A h f → (∀ b ∈ f, h'[b]? = h[b]?) → A h' f
structure Sep (h0 h : Heap) (L : List As) : Prop where
  old : Old h0 h
  all : ∀ A ∈ L, Loc A
  owns : ∃ f, Owns L h f ∧ f.Nodup ∧ ∀ b ∈ f, h0.size ≤ b ∧ b < h.size

theorem Owns.loc : ∀ {L : List As} {h h' : Heap} {f : List Nat}, (∀ A ∈ L, Loc A) → Owns L h f → (∀ b ∈ f, h'[b]? = h[b]?) → Owns L h' f
  | [], _, _, _, _, o, _ => o
  | A :: L, _, _, _, hl, o, hb => by
    obtain ⟨f1, f2, rfl, h1, h2⟩ := o
    exact ⟨f1, f2, rfl, hl A List.mem_cons_self h1 fun b h => hb b (by simp [h]), Owns.loc (fun A h => hl A (List.mem_cons_of_mem _ h)) h2 fun b h => hb b (by simp [h])⟩
theorem Owns.perm {L L' : List As} (p : L.Perm L') : ∀ {h : Heap} {f : List Nat}, Owns L h f → ∃ f', f'.Perm f ∧ Owns L' h f' := by
  induction p with
  | nil => intro h f o; exact ⟨f, .refl _, o⟩
  | cons A _ ih =>
    rintro h f ⟨f1, f2, rfl, h1, h2⟩
    obtain ⟨f', hp, ho⟩ := ih h2
    exact ⟨f1 ++ f', hp.append_left f1, f1, f', rfl, h1, ho⟩
  | swap A B l =>
    rintro h f ⟨f1, f2, rfl, h1, f3, f4, rfl, h3, h4⟩
    refine ⟨f3 ++ (f1 ++ f4), ?_, f3, _, rfl, h3, f1, f4, rfl, h1, h4⟩
    rw [← List.append_assoc, ← List.append_assoc]
    exact List.perm_append_comm.append_right f4
  | trans _ _ ih1 ih2 =>
    intro h f o
    obtain ⟨f1, p1, o1⟩ := ih1 o
    obtain ⟨f2, p2, o2⟩ := ih2 o1
    exact ⟨f2, p2.trans p1, o2⟩
theorem Owns.append : ∀ {L M : List As} {h : Heap} {f g : List Nat}, Owns L h f → Owns M h g → Owns (L ++ M) h (f ++ g)
  | [], _, _, _, _, o, o' => by rw [o]; exact o'
  | A :: L, _, _, _, _, o, o' => by
    obtain ⟨f1, f2, rfl, h1, h2⟩ := o
    exact ⟨f1, _, by rw [List.append_assoc], h1, h2.append o'⟩

theorem Sep.perm {h0 h : Heap} {L L' : List As} (s : Sep h0 h L) (p : L.Perm L') : Sep h0 h L' := by
  obtain ⟨f, ho, hn, hb⟩ := s.owns
  obtain ⟨f', hp, ho'⟩ := ho.perm p
  exact ⟨s.old, fun A hA => s.all A (p.mem_iff.2 hA), f', ho', (hp.nodup_iff).2 hn, fun b h => hb b (hp.mem_iff.1 h)⟩
theorem Sep.start (h : Heap) : Sep h h [] := ⟨.refl h, by simp, [], rfl, by simp, by simp⟩
theorem Sep.drop {h0 h : Heap} {A : As} {L : List As} (s : Sep h0 h (A :: L)) : Sep h0 h L := by
  obtain ⟨f, ⟨f1, f2, rfl, _, ho⟩, hn, hb⟩ := s.owns
  exact ⟨s.old, fun A hA => s.all A (List.mem_cons_of_mem _ hA), f2, ho, (List.nodup_append.1 hn).2.1, fun b h => hb b (by simp [h])⟩
theorem Sep.grow {h0 h h' : Heap} {L : List As} (s : Sep h0 h L) (o : Old h h') : Sep h0 h' L := by
  obtain ⟨f, ho, hn, hb⟩ := s.owns
  exact ⟨s.old.trans o, s.all, f, ho.loc s.all fun b h => o.block b (hb b h).2, hn, fun b h => ⟨(hb b h).1, Nat.lt_of_lt_of_le (hb b h).2 o.size⟩⟩
/-- What a callee hands over. -/
theorem Sep.frame {h0 h h' : Heap} {L M : List As} (s : Sep h0 h L) (t : Sep h h' M) : Sep h0 h' (M ++ L) := by
  obtain ⟨f, ho, hn, hb⟩ := (s.grow t.old).owns
  obtain ⟨f1, ho1, hn1, hb1⟩ := s.owns
  obtain ⟨g, hg, gn, gb⟩ := t.owns
  have hf1 : Owns L h' f1 := ho1.loc s.all fun b h => t.old.block b (hb1 b h).2
  refine ⟨s.old.trans t.old, fun A hA => ?_, g ++ f1, hg.append hf1, ?_, ?_⟩
  · rcases List.mem_append.1 hA with hA | hA
    · exact t.all A hA
    · exact s.all A hA
  · refine List.nodup_append.2 ⟨gn, hn1, fun a ha b hb' e => ?_⟩
    subst e
    have := (gb a ha).1
    have := (hb1 a hb').2
    omega
  · intro b hb'
    rcases List.mem_append.1 hb' with hb' | hb'
    · exact ⟨Nat.le_trans s.old.size (gb b hb').1, (gb b hb').2⟩
    · exact ⟨(hb1 b hb').1, Nat.lt_of_lt_of_le (hb1 b hb').2 t.old.size⟩
/-- A first one that owns nothing. -/
theorem Sep.free {h0 h : Heap} {L : List As} {A : As} (s : Sep h0 h L) (hl : Loc A) (ha : A h []) : Sep h0 h (A :: L) := by
  obtain ⟨f, ho, hn, hb⟩ := s.owns
  exact ⟨s.old, fun B hB => by rcases List.mem_cons.1 hB with rfl | hB; exact hl; exact s.all B hB, f, ⟨[], f, rfl, ha, ho⟩, hn, hb⟩
theorem Sep.conv {h0 h : Heap} {L : List As} {A B : As} (s : Sep h0 h (A :: L)) (hl : Loc B) (ha : ∀ f, A h f → ∃ g, g.Sublist f ∧ B h g) : Sep h0 h (B :: L) := by
  obtain ⟨f, ⟨f1, f2, rfl, h1, ho⟩, hn, hb⟩ := s.owns
  obtain ⟨g, hg, hB⟩ := ha f1 h1
  refine ⟨s.old, fun C hC => ?_, g ++ f2, ⟨g, f2, rfl, hB, ho⟩, ?_, ?_⟩
  · rcases List.mem_cons.1 hC with rfl | hC
    · exact hl
    · exact s.all C (List.mem_cons_of_mem _ hC)
  · exact List.Nodup.sublist (hg.append (List.Sublist.refl f2)) hn
  · intro b hb'
    rcases List.mem_append.1 hb' with hb' | hb'
    · exact hb b (List.mem_append.2 (.inl (hg.subset hb')))
    · exact hb b (List.mem_append.2 (.inr hb'))
theorem Sep.get {h0 h : Heap} {A : As} {L : List As} (s : Sep h0 h (A :: L)) : ∃ f, A h f := by
  obtain ⟨f, ⟨f1, f2, rfl, h1, _⟩, _⟩ := s.owns
  exact ⟨f1, h1⟩

end Go.Fw
