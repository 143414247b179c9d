/-
  Add, Set.
-/
import Derived.Test.YtncbpalncgcoaaaFnInsert
namespace Go.Proofs.Ytncbpalncgcoaaa
open Go.Fw Go.Pl.Api Go.Pl.Vst

abbrev eO : Elem MObj := eObj si_Lapi_Arg
theorem insert_calls {h0 h : Heap} {L : List As} {s v : Sl} {l : List MObj} {o : MObj} {i : Nat} (S : Fw.Sep h0 h (ownSl si_Lvstate_Obj eO s l :: ownSl si_Lvstate_Obj eO v [o] :: L)) (hi : i ≤ l.length) (hn : l.length ≤ 1000000) :
    ACalls Try.prog F_slices_Insert [s.v, .int .i64 (i : Int), v.v] h (fun r h' => ∃ s' : Sl, r = s'.v ∧ Fw.Sep h0 h' (ownSl si_Lvstate_Obj eO s' (l.take i ++ o :: l.drop i) :: L)) := by
  obtain ⟨f, ⟨f1, fr, rfl, o1, f2, f3, rfl, o2, o3⟩, hnd, hbd⟩ := S.owns
  obtain ⟨hsz, U, r1, hos, hsl, hm1, hrow, rfl⟩ := o1
  obtain ⟨_, x, r2, hov, hvl, hm2, hrow2, rfl⟩ := o2
  have hvl1 : v.len = 1 := hvl
  have hdis := List.nodup_append.1 hnd
  have hapart : ∀ b, v.blk = some b → s.blk ≠ some b := fun b hb hs => by
    refine hdis.2.2 b (by rw [hs]; simp) b ?_ rfl
    rw [hb]; simp
  refine (insert_raw hos hov hvl1 hapart hrow.one hrow2.one (by rw [hsl]; exact hi) (by rw [hsl]; exact hn)).mono ?_
  rintro r h' ⟨s', rfl, hos', hsl', hg, hblk⟩
  refine ⟨s', rfl, ?_⟩
  refine Sep.step (M := [ownSl si_Lvstate_Obj eO s l, ownSl si_Lvstate_Obj eO v [o]]) (M' := [ownSl si_Lvstate_Obj eO s' (l.take i ++ o :: l.drop i)]) S (fun A hA => by rw [List.mem_singleton.1 hA]; exact loc_ownSl) ?_
  clear hdis hnd hbd o3 hrow hrow2 hapart
  rintro z ⟨z1, z2, rfl, ⟨_, U', q1, ho1, _, _, hr1, rfl⟩, z3, z4, rfl, ⟨_, x', q2, ho2, _, _, hr2, rfl⟩, rfl⟩ hnd hlt
  have hU := hOwn_det hos ho1
  have hx := hOwn_det hov ho2
  subst hU hx
  simp only [List.append_nil] at hnd hlt
  have hdis := List.nodup_append.1 hnd
  have hd1 := List.nodup_append.1 hdis.1
  have hd2 := List.nodup_append.1 hdis.2.1
  have hsplit : l = l.take i ++ l.drop i := by simp
  rw [hsplit] at hr1
  obtain ⟨u1, u2, g1, g2, rfl, rfl, hra, hrb⟩ := hr1.split
  have hu1 : u1.length = i * 6 := by rw [hra.len, List.length_take, Nat.min_eq_left hi]; rfl
  rw [List.take_left' hu1, List.drop_left' hu1] at hos'
  have keep : ∀ b, b ∈ g1 ++ g2 ++ q2 → h'[b]? = h[b]? := fun b hb => by
    refine hg.block b (hlt b ?_) ?_
    · rcases List.mem_append.1 hb with hb | hb
      · rcases List.mem_append.1 hb with hb | hb <;> simp [hb]
      · simp [hb]
    · intro e
      have hbs : b ∈ s.blk.toList := by rw [← e]; simp
      rcases List.mem_append.1 hb with hb | hb
      · exact hd1.2.2 b hbs b hb rfl
      · exact hdis.2.2 b (by simp [hbs]) b (by simp [hb]) rfl
  have hrow3 : Row eO (u1 ++ (x' ++ u2)) (l.take i ++ ([o] ++ l.drop i)) h' (g1 ++ (q2 ++ g2)) :=
    (Row.loc hra fun b hb => keep b (by simp [hb])).append ((Row.loc hr2 fun b hb => keep b (by simp [hb])).append (Row.loc hrb fun b hb => keep b (by simp [hb])))
  have hmem : ∀ b, b ∈ g1 ++ (q2 ++ g2) → b ∈ g1 ++ g2 ∨ b ∈ q2 := fun b hb => by
    rcases List.mem_append.1 hb with hb | hb
    · exact .inl (by simp [hb])
    · rcases List.mem_append.1 hb with hb | hb
      · exact .inr hb
      · exact .inl (by simp [hb])
  have hlt2 : ∀ b, b ∈ g1 ++ (q2 ++ g2) → b < h.size := fun b hb => hlt b (by rcases hmem b hb with hb | hb <;> simp [hb] <;> rcases List.mem_append.1 hb with hb | hb <;> simp [hb])
  refine ⟨s'.blk.toList ++ (g1 ++ (q2 ++ g2)), ⟨_, [], by simp, ⟨hsz, _, _, by rw [List.append_assoc] at hos'; exact hos', ?_, ?_, hrow3, rfl⟩, rfl⟩, ?_, hg.size, ?_, ?_⟩
  · rw [hsl', hsl]; simp; omega
  · simp; omega
  · have hgg := List.nodup_append.1 hd1.2.1
    refine List.nodup_append.2 ⟨by cases s'.blk <;> simp, List.nodup_append.2 ⟨hgg.1, List.nodup_append.2 ⟨hd2.2.1, hgg.2.1, fun a ha b hb e => ?_⟩, fun a ha b hb e => ?_⟩, fun a ha b hb e => ?_⟩
    · subst e; exact hdis.2.2 a (by simp [hb]) a (by simp [ha]) rfl
    · subst e
      rcases List.mem_append.1 hb with hb | hb
      · exact hdis.2.2 a (by simp [ha]) a (by simp [hb]) rfl
      · exact hgg.2.2 a ha a hb rfl
    · subst e
      have hal := hlt2 a hb
      rcases hblk with e | e
      · rw [e] at ha
        rcases hmem a hb with hb | hb
        · exact hd1.2.2 a ha a hb rfl
        · exact hdis.2.2 a (by simp [ha]) a (by simp [hb]) rfl
      · rw [e] at ha; simp at ha; omega
  · intro b hb hnb
    exact hg.block b hb fun e => hnb (by rw [← e]; simp)
  · intro b hb
    rcases List.mem_append.1 hb with hb | hb
    · have hin : b < h'.size := by
        rcases hOwn_iff.1 hos' with ⟨_, e2 | ⟨b', cur, e2, e3, _⟩⟩
        · rw [e2] at hb; simp [Sl.blk] at hb
        · have : b = b' := by rw [Sl.blk, e2] at hb; simpa using hb
          subst this
          exact (Array.getElem?_eq_some_iff.1 e3).1
      refine ⟨?_, hin⟩
      rcases hblk with e | e
      · rw [e] at hb; left; simp [hb]
      · rw [e] at hb; simp at hb; right; omega
    · refine ⟨.inl ?_, Nat.lt_of_lt_of_le (hlt2 b hb) hg.size⟩
      rcases hmem b hb with hb | hb
      · rcases List.mem_append.1 hb with hb | hb <;> simp [hb]
      · simp [hb]

/-! What is put in -/
theorem filter_low {l : List MObj} {id : Int} {r : Nat} (p : PlaceF l id r) : l.filter (fun x => decide (x.id < id)) = l.take r := by
  have h : l = l.take r ++ l.drop r := by simp
  conv => lhs; rw [h]
  rw [List.filter_append, List.filter_eq_self.2, List.filter_eq_nil_iff.2, List.append_nil]
  · intro a ha
    obtain ⟨z, hz, rfl⟩ := List.getElem_of_mem ha
    rw [List.getElem_drop]
    have := p.high (r + z) (by rw [List.length_drop] at hz; omega) (by omega)
    simp; omega
  · intro a ha
    obtain ⟨z, hz, rfl⟩ := List.getElem_of_mem ha
    rw [List.length_take] at hz
    rw [List.getElem_take]
    exact decide_eq_true (p.low z (by omega) (by omega))
theorem filter_high {l : List MObj} (hr : Rising l) {id : Int} {r : Nat} (p : PlaceF l id r) : l.filter (fun x => decide (id < x.id)) = l.drop (if hitF l id r then r + 1 else r) := by
  have key : ∀ q, q ≤ l.length → (∀ z (hz : z < l.length), z < q → ¬ id < l[z].id) → (∀ z (hz : z < l.length), q ≤ z → id < l[z].id) → l.filter (fun x => decide (id < x.id)) = l.drop q := fun q hq h1 h2 => by
    have h : l = l.take q ++ l.drop q := by simp
    conv => lhs; rw [h]
    rw [List.filter_append, List.filter_eq_nil_iff.2, List.filter_eq_self.2, List.nil_append]
    · intro a ha
      obtain ⟨z, hz, rfl⟩ := List.getElem_of_mem ha
      rw [List.getElem_drop]
      exact decide_eq_true (h2 (q + z) (by rw [List.length_drop] at hz; omega) (by omega))
    · intro a ha
      obtain ⟨z, hz, rfl⟩ := List.getElem_of_mem ha
      rw [List.length_take] at hz
      rw [List.getElem_take]
      simpa using h1 z (by omega) (by omega)
  split
  · rename_i hh
    obtain ⟨hrl, he⟩ := hit_get hh
    refine key (r + 1) (by omega) (fun z hz hlt => ?_) (fun z hz hle => ?_)
    · by_cases e : z = r
      · subst e; omega
      · have := p.low z hz (by omega); omega
    · have := rising_get hr (show r < z by omega) hz
      omega
  · rename_i hh
    refine key r p.le (fun z hz hlt => ?_) (fun z hz hle => ?_)
    · have := p.low z hz hlt; omega
    · have h1 := p.high z hz hle
      by_cases e : z = r
      · subst e
        have : l[z].id ≠ id := fun e => hh (by unfold hitF; rw [List.getElem?_eq_getElem hz]; simpa using e)
        omega
      · have hrl : r < l.length := by omega
        have h2 := rising_get hr (show r < z by omega) hz
        have := p.high r hrl (Nat.le_refl _)
        omega
theorem addF_place {l : List MObj} (hr : Rising l) {o : MObj} {r : Nat} (p : PlaceF l o.id r) : addF l o = l.take r ++ o :: l.drop (if hitF l o.id r then r + 1 else r) := by
  unfold addF
  rw [filter_low p, filter_high hr p]
theorem addF_hit {l : List MObj} (hr : Rising l) {o : MObj} {r : Nat} (p : PlaceF l o.id r) (hh : hitF l o.id r = true) : addF l o = l.set r o := by
  obtain ⟨hrl, _⟩ := hit_get hh
  rw [addF_place hr p, if_pos hh, List.set_eq_take_append_cons_drop, if_pos hrl]

theorem vAdd_calls {h : Heap} {s : Sl} {l : List MObj} {cs : Array Value} {o : MObj} (hs : rdSl rObj.el h s l) (ho : rObj.rv h cs.toList o) (hr : Rising l) (hn : l.length ≤ 100000) (hv : ∀ x ∈ l, x.vals.length ≤ 1000000) (hov : o.vals.length ≤ 1000000) :
    ACalls Try.prog F_vstate_Add [s.v, .agg cs] h (fun v h' => ∃ s' : Sl, v = s'.v ∧ Fw.Sep h h' [ownSl si_Lvstate_Obj eO s' (addF l o)]) := by
  refine vstate_Add_of ?_
  unfold vstate_Add
  refine new_rv ho fun p h1 o1 hp => ?_
  refine (copied_calls (hs.old o1) (by omega) hv).mono ?_
  rintro v h2 ⟨out, rfl, S2⟩
  refine ⟨_, rfl, ?_⟩
  refine ld_int (fld_oId.rd hp) S2.old.ext ?_
  refine (place_calls (rd_obj.1 S2.rd) hr o.id (by omega)).mono ?_
  rintro v h3 ⟨r, rfl, o3, pl⟩
  refine ⟨_, _, rfl, ?_⟩
  have S3 := S2.grow o3
  refine ifB_intro (fun hh => ?_) (fun hh => ?_)
  · obtain ⟨hrl, _⟩ := hit_get hh
    refine ld_agg hp S3.old.ext rfl fun c hc => ?_
    refine (objCopied_calls (rObj.ext hc S3.old.ext) hov).mono ?_
    rintro v h4 ⟨ds, rfl, hds, S4⟩
    refine ⟨_, rfl, ?_⟩
    have S5 := (S3.frame S4).swap
    refine idx_rdN S5.rd rfl hrl fun p1 hat _ => ?_
    refine ⟨hds, st_rule S5 hat rfl hrl fun h5 S6 => ?_⟩
    rw [addF_hit hr pl hh]
    exact ⟨out, rfl, S6.since o1⟩
  · have hh : hitF l o.id r = false := hh
    refine ld_agg hp S3.old.ext rfl fun c hc => ?_
    refine (objCopied_calls (rObj.ext hc S3.old.ext) hov).mono ?_
    rintro v h6 ⟨ds, rfl, hds, S4⟩
    refine ⟨_, rfl, ?_⟩
    have S5 := S3.frame S4
    have S6 : Fw.Sep h1 h6 (ownRow eO ds.toList [o] :: [ownSl si_Lvstate_Obj eO out l]) := S5.conv loc_ownRow fun f hf => ⟨f, List.Sublist.refl f, ds.toList, [], f, [], by simp, by simp, hf, rfl, rfl⟩
    refine bld_rule (us := ds.toList) S6 ?_ rfl rfl (by decide) (by decide) fun s1 h7 S7 => ?_
    · have := fill_one (size := 6) (z := madeCells si_Lvstate_Obj.zero.cells (1 * si_Lvstate_Obj.size)) (v := .agg ds) hds (by rw [size_madeCells]; rfl)
      rw [Array.toArray_toList]
      exact this
    refine (insert_calls S7.swap pl.le (by omega)).mono ?_
    rintro v h8 ⟨s', rfl, S8⟩
    refine ⟨_, rfl, s', rfl, ?_⟩
    rw [addF_place hr pl, hh]
    exact S8.since o1

end Go.Proofs.Ytncbpalncgcoaaa
