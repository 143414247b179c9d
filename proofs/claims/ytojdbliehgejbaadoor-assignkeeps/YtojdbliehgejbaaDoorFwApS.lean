/-
  Bytes of a string behind a row of one's own.
-/
import Derived.Test.YtojdbliehgejbaaDoorFwRules
namespace Go.Fw

@[reducible] def eB8 : Elem UInt8 := .cell byV (fun _ => rfl)
theorem row_bytes (t : ByteArray) {h : Heap} : Row eB8 (bytesV t) t.data.toList h [] := Row.of_cells t.data.toList
theorem apS_rule {si : SlI} {h0 h : Heap} {L : List As} {s : Sl} {l : List UInt8} {t : ByteArray} {K : Sl → Heap → Prop}
    (S0 : Sep h0 h (ownSl si eB8 s l :: L)) (h1 : si.size = 1)
    (hb : (l.length + t.size) * si.bytes ≤ 140737488355328) (hb1 : l.length + t.size ≤ 140737488355328)
    (hK : ∀ s' h', Sep h0 h' (ownSl si eB8 s' (l ++ t.data.toList) :: L) → K s' h') : apS si s t h K := by
  have S : Sep h0 h (ownSl si eB8 s l :: ownRow eB8 (bytesV t) t.data.toList :: L) := (S0.free (A := ownRow eB8 (bytesV t) t.data.toList) loc_ownRow (row_bytes t)).perm (List.Perm.swap _ _ _)
  obtain ⟨f, ⟨f1, f2, rfl, o1, f3, f4, rfl, o2, o3⟩, hn, hbd⟩ := S.owns
  obtain ⟨hsz, vs, f', ho, hl, hm, hrow, rfl⟩ := o1
  refine ⟨vs, ho, h1, by simp only [maxLen]; omega, by rw [hl]; exact hb, fun s' h' ho' hl' hg hblk _ _ => hK s' h' ?_⟩
  refine Sep.step (M := [ownSl si eB8 s l, ownRow eB8 (bytesV t) t.data.toList]) (M' := [ownSl si eB8 s' (l ++ t.data.toList)]) S (fun A hA => by rw [List.mem_singleton.1 hA]; exact loc_ownSl) ?_
  clear hn hbd o2 o3
  rintro g ⟨g1, g2, rfl, ⟨_, vs', f'', ho2, _, _, hrow', rfl⟩, g3, g4, rfl, o2, rfl⟩ hn hlt
  -- what the row holds is what it holds
  have hvs : vs' = vs := by
    rcases hOwn_iff.1 ho with ⟨e1, e2 | ⟨b, cur, e2, e3, e4, e5, e6, e7⟩⟩
    · rcases hOwn_iff.1 ho2 with ⟨d1, _⟩
      rw [e2] at e1 d1
      simp at e1 d1
      rw [e1, d1]
    · rcases hOwn_iff.1 ho2 with ⟨d1, d2 | ⟨b', cur', d2, d3, d4, d5, d6, d7⟩⟩
      · rw [d2] at e2; simp at e2
      · rw [e2] at d2
        simp at d2
        subst d2
        rw [e3] at d3
        simp at d3
        subst d3
        rw [← d7, e7]
  subst hvs
  simp only [List.append_nil] at hn hlt ⊢
  have hdis := List.nodup_append.1 hn
  have hd1 := List.nodup_append.1 hdis.1
  have keep : ∀ b, b ∈ f'' ++ g3 → h'[b]? = h[b]? := fun b hb' => by
    refine hg.block b (hlt b ?_) ?_
    · rcases List.mem_append.1 hb' with h1 | h1 <;> simp [h1]
    · intro e
      have hbs : b ∈ s.blk.toList := by rw [← e]; simp
      rcases List.mem_append.1 hb' with h1 | h1
      · exact hd1.2.2 b hbs b h1 rfl
      · exact hdis.2.2 b (by simp [hbs]) b h1 rfl
  have hrow2 : Row eB8 (vs' ++ bytesV t) (l ++ t.data.toList) h' (f'' ++ g3) :=
    (Row.loc hrow' fun b hb' => keep b (by simp [hb'])).append (Row.loc o2 fun b hb' => keep b (by simp [hb']))
  refine ⟨s'.blk.toList ++ (f'' ++ g3), ⟨_, [], by simp, ⟨hsz, _, _, ho', by rw [hl', hl, List.length_append, Array.length_toList]; rfl, by simp; omega, hrow2, rfl⟩, rfl⟩, ?_, hg.size, ?_, ?_⟩
  · refine List.nodup_append.2 ⟨by cases s'.blk <;> simp, List.nodup_append.2 ⟨hd1.2.1, hdis.2.1, fun a ha b hb' => hdis.2.2 a (by simp [ha]) b hb'⟩, fun a ha b hb' e => ?_⟩
    subst e
    have hlt' : a < h.size := by
      apply hlt
      rcases List.mem_append.1 hb' with h1 | h1 <;> simp [h1]
    rcases hblk with e | e
    · rw [e] at ha
      rcases List.mem_append.1 hb' with h1 | h1
      · exact hd1.2.2 a ha a h1 rfl
      · exact hdis.2.2 a (by simp [ha]) a h1 rfl
    · rw [e] at ha; simp at ha; omega
  · intro b hb' hnb
    exact hg.block b hb' fun e => hnb (by rw [← e]; simp)
  · intro b hb'
    rcases List.mem_append.1 hb' with h1 | h1
    · have hin : b < h'.size := by
        rcases hOwn_iff.1 ho' with ⟨_, e2 | ⟨b', cur, e2, e3, _⟩⟩
        · rw [e2] at h1; simp [Sl.blk] at h1
        · have : b = b' := by rw [Sl.blk, e2] at h1; simpa using h1
          subst this
          exact (Array.getElem?_eq_some_iff.1 e3).1
      refine ⟨?_, hin⟩
      rcases hblk with e | e
      · rw [e] at h1; left; simp [h1]
      · rw [e] at h1; simp at h1; right; omega
    · have hin : b ∈ s.blk.toList ++ f'' ++ g3 := by
        rcases List.mem_append.1 h1 with h2 | h2 <;> simp [h2]
      exact ⟨.inl (by simpa using hin), Nat.lt_of_lt_of_le (hlt b (by simpa using hin)) hg.size⟩


theorem Sep.pull {h0 h : Heap} {A : As} (L1 : List As) {L2 : List As} (S : Sep h0 h (L1 ++ A :: L2)) : Sep h0 h (A :: (L1 ++ L2)) := S.perm List.perm_middle
theorem Sep.push {h0 h : Heap} {A : As} (L1 : List As) {L2 : List As} (S : Sep h0 h (A :: (L1 ++ L2))) : Sep h0 h (L1 ++ A :: L2) := S.perm List.perm_middle.symm

end Go.Fw
