/-
  Add, Set.
-/
import Derived.Test.YtncbpalncgcoaaaFnReach
import Derived.Test.YtncbpalncgcoaaaFwRow
namespace Go.Proofs.Ytncbpalncgcoaaa
open Go.Fw Go.Pl.Api Go.Pl.Vst

abbrev eO : Elem MObj := eObj si_Lapi_Arg
theorem insert_calls {h0 h : Heap} {L : List As} {s v : Sl} {l : List MObj} {o : MObj} {i : Nat} (S : Fw.Sep h0 h (ownSl si_Lvstate_Obj eO s l :: ownSl si_Lvstate_Obj eO v [o] :: L)) (hi : i ≤ l.length) (hn : l.length ≤ 1000000) :
    ACalls Try.prog F_slices_Insert [s.v, .int .i64 (i : Int), v.v] h (fun r h' => ∃ s' : Sl, r = s'.v ∧ Fw.Sep h0 h' (ownSl si_Lvstate_Obj eO s' (l.take i ++ o :: l.drop i) :: L)) := by
  obtain ⟨f, ⟨f1, fr, rfl, o1, f2, f3, rfl, o2, o3⟩, hnd, hbd⟩ := S.owns
  obtain ⟨hsz, U, r1, hos, hsl, hm1, hrow, rfl⟩ := o1
  obtain ⟨_, x, r2, hov, hvl, hm2, hrow2, rfl⟩ := o2
  have hvl1 : v.len = 1 := hvl
  have hdis := List.nodup_append.1 hnd
  have hapart : ∀ b, v.blk = some b → s.blk ≠ some b := fun b hb hs => by
    refine hdis.2.2 b (by rw [hs]; simp) b ?_ rfl
    rw [hb]; simp
  refine (insert_raw hos hov hvl1 hapart hrow.one hrow2.one (by rw [hsl]; exact hi) (by rw [hsl]; exact hn)).mono ?_
  rintro r h' ⟨s', rfl, hos', hsl', hg, hblk⟩
  refine ⟨s', rfl, ?_⟩
  refine Sep.step (M := [ownSl si_Lvstate_Obj eO s l, ownSl si_Lvstate_Obj eO v [o]]) (M' := [ownSl si_Lvstate_Obj eO s' (l.take i ++ o :: l.drop i)]) S (fun A hA => by rw [List.mem_singleton.1 hA]; exact loc_ownSl) ?_
  clear hdis hnd hbd o3 hrow hrow2 hapart
  rintro z ⟨z1, z2, rfl, ⟨_, U', q1, ho1, _, _, hr1, rfl⟩, z3, z4, rfl, ⟨_, x', q2, ho2, _, _, hr2, rfl⟩, rfl⟩ hnd hlt
  have hU := hOwn_det hos ho1
  have hx := hOwn_det hov ho2
  subst hU hx
  simp only [List.append_nil] at hnd hlt
  have hdis := List.nodup_append.1 hnd
  have hd1 := List.nodup_append.1 hdis.1
  have hd2 := List.nodup_append.1 hdis.2.1
  have hsplit : l = l.take i ++ l.drop i := by simp
  rw [hsplit] at hr1
  obtain ⟨u1, u2, g1, g2, rfl, rfl, hra, hrb⟩ := hr1.split
  have hu1 : u1.length = i * 6 := by rw [hra.len, List.length_take, Nat.min_eq_left hi]; rfl
  rw [List.take_left' hu1, List.drop_left' hu1] at hos'
  have keep : ∀ b, b ∈ g1 ++ g2 ++ q2 → h'[b]? = h[b]? := fun b hb => by
    refine hg.block b (hlt b ?_) ?_
    · rcases List.mem_append.1 hb with hb | hb
      · rcases List.mem_append.1 hb with hb | hb <;> simp [hb]
      · simp [hb]
    · intro e
      have hbs : b ∈ s.blk.toList := by rw [← e]; simp
      rcases List.mem_append.1 hb with hb | hb
      · exact hd1.2.2 b hbs b hb rfl
      · exact hdis.2.2 b (by simp [hbs]) b (by simp [hb]) rfl
  have hrow3 : Row eO (u1 ++ (x' ++ u2)) (l.take i ++ ([o] ++ l.drop i)) h' (g1 ++ (q2 ++ g2)) :=
    (Row.loc hra fun b hb => keep b (by simp [hb])).append ((Row.loc hr2 fun b hb => keep b (by simp [hb])).append (Row.loc hrb fun b hb => keep b (by simp [hb])))
  have hmem : ∀ b, b ∈ g1 ++ (q2 ++ g2) → b ∈ g1 ++ g2 ∨ b ∈ q2 := fun b hb => by
    rcases List.mem_append.1 hb with hb | hb
    · exact .inl (by simp [hb])
    · rcases List.mem_append.1 hb with hb | hb
      · exact .inr hb
      · exact .inl (by simp [hb])
  have hlt2 : ∀ b, b ∈ g1 ++ (q2 ++ g2) → b < h.size := fun b hb => hlt b (by rcases hmem b hb with hb | hb <;> simp [hb] <;> rcases List.mem_append.1 hb with hb | hb <;> simp [hb])
  refine ⟨s'.blk.toList ++ (g1 ++ (q2 ++ g2)), ⟨_, [], by simp, ⟨hsz, _, _, by rw [List.append_assoc] at hos'; exact hos', ?_, ?_, hrow3, rfl⟩, rfl⟩, ?_, hg.size, ?_, ?_⟩
  · rw [hsl', hsl]; simp; omega
  · simp; omega
  · have hgg := List.nodup_append.1 hd1.2.1
    refine List.nodup_append.2 ⟨by cases s'.blk <;> simp, List.nodup_append.2 ⟨hgg.1, List.nodup_append.2 ⟨hd2.2.1, hgg.2.1, fun a ha b hb e => ?_⟩, fun a ha b hb e => ?_⟩, fun a ha b hb e => ?_⟩
    · subst e; exact hdis.2.2 a (by simp [hb]) a (by simp [ha]) rfl
    · subst e
      rcases List.mem_append.1 hb with hb | hb
      · exact hdis.2.2 a (by simp [ha]) a (by simp [hb]) rfl
      · exact hgg.2.2 a ha a hb rfl
    · subst e
      have hal := hlt2 a hb
      rcases hblk with e | e
      · rw [e] at ha
        rcases hmem a hb with hb | hb
        · exact hd1.2.2 a ha a hb rfl
        · exact hdis.2.2 a (by simp [ha]) a (by simp [hb]) rfl
      · rw [e] at ha; simp at ha; omega
  · intro b hb hnb
    exact hg.block b hb fun e => hnb (by rw [← e]; simp)
  · intro b hb
    rcases List.mem_append.1 hb with hb | hb
    · have hin : b < h'.size := by
        rcases hOwn_iff.1 hos' with ⟨_, e2 | ⟨b', cur, e2, e3, _⟩⟩
        · rw [e2] at hb; simp [Sl.blk] at hb
        · have : b = b' := by rw [Sl.blk, e2] at hb; simpa using hb
          subst this
          exact (Array.getElem?_eq_some_iff.1 e3).1
      refine ⟨?_, hin⟩
      rcases hblk with e | e
      · rw [e] at hb; left; simp [hb]
      · rw [e] at hb; simp at hb; right; omega
    · refine ⟨.inl ?_, Nat.lt_of_lt_of_le (hlt2 b hb) hg.size⟩
      rcases hmem b hb with hb | hb
      · rcases List.mem_append.1 hb with hb | hb <;> simp [hb]
      · simp [hb]

/-! What is put in -/
theorem filter_low {l : List MObj} {id : Int} {r : Nat} (p : PlaceF l id r) : l.filter (fun x => decide (x.id < id)) = l.take r := by
  have h : l = l.take r ++ l.drop r := by simp
  conv => lhs; rw [h]
  rw [List.filter_append, List.filter_eq_self.2, List.filter_eq_nil_iff.2, List.append_nil]
  · intro a ha
    obtain ⟨z, hz, rfl⟩ := List.getElem_of_mem ha
    rw [List.getElem_drop]
    have := p.high (r + z) (by rw [List.length_drop] at hz; omega) (by omega)
    simp; omega
  · intro a ha
    obtain ⟨z, hz, rfl⟩ := List.getElem_of_mem ha
    rw [List.length_take] at hz
    rw [List.getElem_take]
    exact decide_eq_true (p.low z (by omega) (by omega))
theorem filter_high {l : List MObj} (hr : Rising l) {id : Int} {r : Nat} (p : PlaceF l id r) : l.filter (fun x => decide (id < x.id)) = l.drop (if hitF l id r then r + 1 else r) := by
  have key : ∀ q, q ≤ l.length → (∀ z (hz : z < l.length), z < q → ¬ id < l[z].id) → (∀ z (hz : z < l.length), q ≤ z → id < l[z].id) → l.filter (fun x => decide (id < x.id)) = l.drop q := fun q hq h1 h2 => by
    have h : l = l.take q ++ l.drop q := by simp
    conv => lhs; rw [h]
    rw [List.filter_append, List.filter_eq_nil_iff.2, List.filter_eq_self.2, List.nil_append]
    · intro a ha
      obtain ⟨z, hz, rfl⟩ := List.getElem_of_mem ha
      rw [List.getElem_drop]
      exact decide_eq_true (h2 (q + z) (by rw [List.length_drop] at hz; omega) (by omega))
    · intro a ha
      obtain ⟨z, hz, rfl⟩ := List.getElem_of_mem ha
      rw [List.length_take] at hz
      rw [List.getElem_take]
      simpa using h1 z (by omega) (by omega)
  split
  · rename_i hh
    obtain ⟨hrl, he⟩ := hit_get hh
    refine key (r + 1) (by omega) (fun z hz hlt => ?_) (fun z hz hle => ?_)
    · by_cases e : z = r
      · subst e; omega
      · have := p.low z hz (by omega); omega
    · have := rising_get hr (show r < z by omega) hz
      omega
  · rename_i hh
    refine key r p.le (fun z hz hlt => ?_) (fun z hz hle => ?_)
    · have := p.low z hz hlt; omega
    · have h1 := p.high z hz hle
      by_cases e : z = r
      · subst e
        have : l[z].id ≠ id := fun e => hh (by unfold hitF; rw [List.getElem?_eq_getElem hz]; simpa using e)
        omega
      · have hrl : r < l.length := by omega
        have h2 := rising_get hr (show r < z by omega) hz
        have := p.high r hrl (Nat.le_refl _)
        omega
theorem addF_place {l : List MObj} (hr : Rising l) {o : MObj} {r : Nat} (p : PlaceF l o.id r) : addF l o = l.take r ++ o :: l.drop (if hitF l o.id r then r + 1 else r) := by
  unfold addF
  rw [filter_low p, filter_high hr p]
theorem addF_hit {l : List MObj} (hr : Rising l) {o : MObj} {r : Nat} (p : PlaceF l o.id r) (hh : hitF l o.id r = true) : addF l o = l.set r o := by
  obtain ⟨hrl, _⟩ := hit_get hh
  rw [addF_place hr p, if_pos hh, List.set_eq_take_append_cons_drop, if_pos hrl]

theorem vAdd_calls {h : Heap} {s : Sl} {l : List MObj} {cs : Array Value} {o : MObj} (hs : rdSl rObj.el h s l) (ho : rObj.rv h cs.toList o) (hr : Rising l) (hn : l.length ≤ 100000) (hv : ∀ x ∈ l, x.vals.length ≤ 1000000) (hov : o.vals.length ≤ 1000000) :
    ACalls Try.prog F_vstate_Add [s.v, .agg cs] h (fun v h' => ∃ s' : Sl, v = s'.v ∧ Fw.Sep h h' [ownSl si_Lvstate_Obj eO s' (addF l o)]) := by
  refine vstate_Add_of ?_
  unfold vstate_Add
  refine new_rv ho fun p h1 o1 hp => ?_
  refine (copied_calls (hs.old o1) (by omega) hv).mono ?_
  rintro v h2 ⟨out, rfl, S2⟩
  refine ⟨_, rfl, ?_⟩
  refine ld_int (fld_oId.rd hp) S2.old.ext ?_
  refine (place_calls (rd_obj.1 S2.rd) hr o.id (by omega)).mono ?_
  rintro v h3 ⟨r, rfl, o3, pl⟩
  refine ⟨_, _, rfl, ?_⟩
  have S3 := S2.grow o3
  refine ifB_intro (fun hh => ?_) (fun hh => ?_)
  · obtain ⟨hrl, _⟩ := hit_get hh
    refine ld_agg hp S3.old.ext rfl fun c hc => ?_
    refine (objCopied_calls (rObj.ext hc S3.old.ext) hov).mono ?_
    rintro v h4 ⟨ds, rfl, hds, S4⟩
    refine ⟨_, rfl, ?_⟩
    have S5 := (S3.frame S4).swap
    refine idx_rdN S5.rd rfl hrl fun p1 hat _ => ?_
    refine ⟨hds, st_rule S5 hat rfl hrl fun h5 S6 => ?_⟩
    rw [addF_hit hr pl hh]
    exact ⟨out, rfl, S6.since o1⟩
  · have hh : hitF l o.id r = false := hh
    refine ld_agg hp S3.old.ext rfl fun c hc => ?_
    refine (objCopied_calls (rObj.ext hc S3.old.ext) hov).mono ?_
    rintro v h6 ⟨ds, rfl, hds, S4⟩
    refine ⟨_, rfl, ?_⟩
    have S5 := S3.frame S4
    have S6 : Fw.Sep h1 h6 (ownRow eO ds.toList [o] :: [ownSl si_Lvstate_Obj eO out l]) := S5.conv loc_ownRow fun f hf => ⟨f, List.Sublist.refl f, ds.toList, [], f, [], by simp, by simp, hf, rfl, rfl⟩
    refine bld_rule (us := ds.toList) S6 ?_ rfl rfl (by decide) (by decide) fun s1 h7 S7 => ?_
    · have := fill_one (size := 6) (z := madeCells si_Lvstate_Obj.zero.cells (1 * si_Lvstate_Obj.size)) (v := .agg ds) hds (by rw [size_madeCells]; rfl)
      rw [Array.toArray_toList]
      exact this
    refine (insert_calls S7.swap pl.le (by omega)).mono ?_
    rintro v h8 ⟨s', rfl, S8⟩
    refine ⟨_, rfl, s', rfl, ?_⟩
    rw [addF_place hr pl, hh]
    exact S8.since o1

end Go.Proofs.Ytncbpalncgcoaaa

/-
  The document's Add; Set on both sides.
-/
namespace Go.Proofs.Ytncbpalncgcoaaa
open Go.Fw Go.Pl.Api Go.Pl.Vst

def outL (l : List MObj) (o : MObj) (i : Nat) (d : Bool) : List MObj := (l.take i).filter (fun x => decide (x.id < o.id)) ++ if d then o :: (l.take i).filter (fun x => decide (o.id < x.id)) else []
structure OutI (l : List MObj) (o : MObj) (i : Nat) (d : Bool) : Prop where
  no : d = false → ∀ k (hk : k < l.length), k < i → l[k].id < o.id
  yes : d = true → ∃ k, ∃ hk : k < l.length, k < i ∧ o.id ≤ l[k].id
theorem outL_len {l : List MObj} {o : MObj} {i : Nat} {d : Bool} : (outL l o i d).length ≤ 2 * l.length + 1 := by
  unfold outL
  have h1 := List.length_filter_le (fun x : MObj => decide (x.id < o.id)) (l.take i)
  have h2 := List.length_filter_le (fun x : MObj => decide (o.id < x.id)) (l.take i)
  rw [List.length_take] at h1 h2
  rw [List.length_append]
  split
  · rw [List.length_cons]; omega
  · simp; omega
theorem out_end {l : List MObj} {o : MObj} {d : Bool} (h : OutI l o l.length d) : addF l o = if d then outL l o l.length d else outL l o l.length d ++ [o] := by
  unfold addF outL
  rw [List.take_length]
  cases d with
  | true => simp
  | false =>
    have : l.filter (fun x => decide (o.id < x.id)) = [] := List.filter_eq_nil_iff.2 fun x hx => by
      obtain ⟨z, hz, rfl⟩ := List.getElem_of_mem hx
      have := h.no rfl z hz hz
      simp; omega
    rw [this]
    simp
theorem out_low {l : List MObj} {o : MObj} {i : Nat} (hi : i < l.length) (h : l[i].id < o.id) (q : OutI l o i false) : outL l o (i + 1) false = outL l o i false ++ [l[i]] ∧ OutI l o (i + 1) false := by
  refine ⟨?_, fun _ k hk hlt => ?_, fun h => by cases h⟩
  · unfold outL
    rw [List.take_succ_eq_append_getElem hi, List.filter_append]
    simp [h]
  · by_cases e : k = i
    · subst e; exact h
    · exact q.no rfl k hk (by omega)
theorem out_first {l : List MObj} {o : MObj} {i : Nat} (hi : i < l.length) (h : o.id ≤ l[i].id) (q : OutI l o i false) : outL l o (i + 1) true = outL l o i false ++ [o] ++ (if l[i].id = o.id then [] else [l[i]]) ∧ OutI l o (i + 1) true := by
  refine ⟨?_, fun h => (by cases h), fun _ => ⟨i, hi, by omega, h⟩⟩
  have h0 : (l.take i).filter (fun x => decide (o.id < x.id)) = [] := List.filter_eq_nil_iff.2 fun x hx => by
    obtain ⟨z, hz, rfl⟩ := List.getElem_of_mem hx
    rw [List.length_take] at hz
    rw [List.getElem_take]
    have := q.no rfl z (by omega) (by omega)
    simp; omega
  unfold outL
  rw [List.take_succ_eq_append_getElem hi, List.filter_append, List.filter_append, h0]
  by_cases e : l[i].id = o.id
  · simp [e]
  · have h1 : ¬ l[i].id < o.id := by omega
    have h2 : o.id < l[i].id := by omega
    simp [e, h1, h2]
theorem out_more {l : List MObj} {o : MObj} {i : Nat} (hr : Rising l) (hi : i < l.length) (q : OutI l o i true) : outL l o (i + 1) true = outL l o i true ++ [l[i]] ∧ OutI l o (i + 1) true ∧ l[i].id ≠ o.id := by
  obtain ⟨k, hk, hki, hle⟩ := q.yes rfl
  have := rising_get hr hki hi
  refine ⟨?_, ⟨fun h => (by cases h), fun _ => ⟨k, hk, by omega, hle⟩⟩, by omega⟩
  unfold outL
  rw [List.take_succ_eq_append_getElem hi, List.filter_append, List.filter_append]
  have h1 : ¬ l[i].id < o.id := by omega
  have h2 : o.id < l[i].id := by omega
  simp [h1, h2]

theorem refAdd_callsB {hb h : Heap} {s : Sl} {l : List MObj} {cs : Array Value} {o : MObj} (hs : rdSl rObj.el hb s l) (ob : Old hb h) (ho : rObj.rv hb cs.toList o) (hr : Rising l) (hn : l.length ≤ 100000) :
    ACalls Try.prog F_lateenref22_Add [s.v, .agg cs] h (fun v h' => ∃ s' : Sl, v = s'.v ∧ Fw.Sep h h' [ownSl si_Llateenref22_Obj (rObj.fl hb) s' (addF l o)]) := by
  refine lateenref22_Add_of ?_
  unfold lateenref22_Add
  have hl := hs.lenEq
  refine new_rawB (Sep.start h) fun p h1 o1 S1 => ?_
  have hpc := rawB_cell S1
  have hp : rObj.el.rd h1 p o := by
    refine ⟨hpc.1, cs.toList, fun j v hj => ?_, rObj.ext ho (ob.trans o1).ext⟩
    rw [hpc.2]; simpa using hj
  have putO : ∀ {h2 : Heap} {out : Sl} {X : List MObj} {K : Sl → Heap → Prop}, Fw.Sep h h2 [ownSl si_Llateenref22_Obj (rObj.fl hb) out X, rawB p cs] → X.length ≤ 300000 → (∀ s' h', Fw.Sep h h' [ownSl si_Llateenref22_Obj (rObj.fl hb) s' (X ++ [o]), rawB p cs] → K s' h') →
      ld (.agg 6) h2 p fun (x : Array Value) => bld si_Llateenref22_Obj 1 [(0, .agg x)] h2 fun s h_3 => app si_Llateenref22_Obj out s h_3 fun s' h' => K s' h' := fun {h2 out X K} S hX hK => by
    refine ld_rawAgg S.swap (size_rv ho).symm ?_
    exact app1_flat (v := .agg cs) (x := o) S (fun _ => ⟨ho, rfl⟩) rfl (by decide) (by simp only [si_Llateenref22_Obj]; omega) (by omega) hK
  refine loop_intro (fun m (q : Sl × Bool × Int) h' => ∃ i : Nat, q.2.2 = i ∧ i ≤ l.length ∧ m = l.length - i ∧ Fw.Sep h h' [ownSl si_Llateenref22_Obj (rObj.fl hb) q.1 (outL l o i q.2.1), rawB p cs] ∧ OutI l o i q.2.1) l.length
    ⟨0, rfl, by omega, by omega, S1.nil rfl, ⟨fun _ k _ h => (by omega), fun h => by cases h⟩⟩ ?_
  clear S1
  rintro _ _ ⟨out, d, i⟩ h2 ⟨i, hi0, hil, rfl, S2, Q⟩
  simp only at hi0 S2 Q ⊢
  subst hi0
  have hX := @outL_len l o i d
  have hcell : hcell h2 (p.add 0) = some (.int .i64 o.id) := by
    rw [(rawB_cell S2.swap).2 0]
    obtain ⟨sl, rfl, _⟩ := arr_obj ho
    rfl
  refine ifB_intro (fun hc => ?_) (fun hc => ?_)
  · have hi : i < l.length := by rw [hl] at hc; simpa using hc
    intro k hk
    have next : ∀ (s' : Sl) (d' : Bool) (h' : Heap) (X : List MObj), X = outL l o (i + 1) d' → Fw.Sep h h' [ownSl si_Llateenref22_Obj (rObj.fl hb) s' X, rawB p cs] → OutI l o (i + 1) d' → k (s', d') h' := fun s' d' h' X hX S' Q' => hk _ _ fun _ => by
      subst hX
      exact ar_i64 (by omega) (by omega) ⟨l.length - (i + 1), by omega, i + 1, rfl, by omega, rfl, S', Q'⟩
    intro k1 hk1
    have k1of : ∀ (s' : Sl) (d' : Bool) (h' : Heap) (X : List MObj), X.length ≤ 300000 → Fw.Sep h h' [ownSl si_Llateenref22_Obj (rObj.fl hb) s' X, rawB p cs] → (if l[i].id = o.id then X else X ++ [l[i]]) = outL l o (i + 1) d' → OutI l o (i + 1) d' → k1 (s', d') h' := fun s' d' h' X hXl S' he Q' => hk1 _ _ fun _ => by
      simp only
      have hcell' : Go.Fw.hcell h' (p.add 0) = some (.int .i64 o.id) := by
        rw [(rawB_cell S'.swap).2 0]
        obtain ⟨sl, rfl, _⟩ := arr_obj ho
        rfl
      refine idx_rdN hs rfl hi fun p1 _ hp1 => ?_
      refine ld_int (fld_oId.rd hp1) (ob.trans S'.old).ext ?_
      refine ld_one (k := .int .i64) (x := o.id) hcell' ?_
      refine ifB_intro (fun hne => ?_) (fun hne => ?_)
      · have hne : l[i].id ≠ o.id := by simpa using hne
        rw [if_neg hne] at he
        refine idx_rdN hs rfl hi fun p2 _ hp2 => ?_
        refine ld_agg hp2 (ob.trans S'.old).ext rfl fun c hc => ?_
        refine app1_flat (v := .agg c) (x := l[i]) S' (fun _ => ⟨hc, rfl⟩) rfl (by decide) (by simp only [si_Llateenref22_Obj]; omega) (by omega) fun s2 h3 S3 => ?_
        exact next s2 d' h3 _ he S3 Q'
      · have he' : l[i].id = o.id := by simpa using hne
        rw [if_pos he'] at he
        exact next s' d' h' _ he S' Q'
    intro k2 hk2
    cases d with
    | true =>
      obtain ⟨e1, e2, e3⟩ := out_more hr hi Q
      refine ifB_false rfl (hk2 _ _ fun _ => ifB_false rfl ?_)
      exact k1of out true h2 _ (by omega) S2 (by rw [if_neg e3, e1]) e2
    | false =>
      refine ifB_true rfl ?_
      refine idx_rdN hs rfl hi fun p3 _ hp3 => ?_
      refine ld_int (fld_oId.rd hp3) (ob.trans S2.old).ext ?_
      refine ld_one (k := .int .i64) (x := o.id) hcell ?_
      by_cases hge : o.id ≤ l[i].id
      · rw [decide_eq_true (show l[i].id ≥ o.id from hge)]
        obtain ⟨e1, e2⟩ := out_first hi hge Q
        refine hk2 _ _ fun _ => ifB_true rfl ?_
        refine putO S2 (by omega) fun s' h' S' => ?_
        exact k1of s' true h' _ (by rw [List.length_append]; simp; omega) S' (by rw [e1]; split <;> simp) e2
      · rw [decide_eq_false (show ¬ l[i].id ≥ o.id from hge)]
        obtain ⟨e1, e2⟩ := out_low hi (by omega) Q
        refine hk2 _ _ fun _ => ifB_false rfl ?_
        exact k1of out false h2 _ (by omega) S2 (by rw [if_neg (by omega), e1]) e2
  · have hil : i = l.length := by rw [hl] at hc; have : l.length ≤ i := by simpa using hc
                                  omega
    subst hil
    have he := out_end Q
    intro k3 hk3
    have fin : ∀ (s' : Sl) (h' : Heap), Fw.Sep h h' [ownSl si_Llateenref22_Obj (rObj.fl hb) s' (addF l o), rawB p cs] → k3 s' h' := fun s' h' S' => hk3 _ _ fun _ => ⟨s', rfl, S'.swap.drop⟩
    cases d with
    | true =>
      refine ifB_false rfl (fin out h2 ?_)
      rw [he]
      exact S2
    | false =>
      refine ifB_true rfl ?_
      refine putO S2 (by omega) fun s' h' S' => fin s' h' ?_
      rw [he]
      exact S'
theorem refAdd_calls {h : Heap} {s : Sl} {l : List MObj} {cs : Array Value} {o : MObj} (hs : rdSl rObj.el h s l) (ho : rObj.rv h cs.toList o) (hr : Rising l) (hn : l.length ≤ 100000) :
    ACalls Try.prog F_lateenref22_Add [s.v, .agg cs] h (fun v h' => ∃ s' : Sl, v = s'.v ∧ Fw.Sep h h' [ownSl si_Llateenref22_Obj (rObj.fl h) s' (addF l o)]) := refAdd_callsB hs (.refl h) ho hr hn

end Go.Proofs.Ytncbpalncgcoaaa

/-
  Set, on both sides.
-/
namespace Go.Proofs.Ytncbpalncgcoaaa
open Go.Fw Go.Pl.Api Go.Pl.Vst

theorem el_slice {h0 h : Heap} {L : List As} {xs : List Value} {o : MObj} (S : Fw.Sep h0 h (ownEl eO xs o :: L)) :
    ∃ s : Sl, xs = [.int .i64 o.id, .string o.cls, s.v, .int .i64 o.real.kind, .string o.real.s, .int .i64 o.real.n] ∧ Fw.Sep h0 h (ownSl si_Lapi_Arg eArg s o.vals :: L) := by
  obtain ⟨f, s, hxs, _⟩ := S.get
  refine ⟨s, hxs, S.conv loc_ownSl fun f hf => ?_⟩
  obtain ⟨s2, h2, h3⟩ := hf
  rw [hxs] at h2
  injection h2 with _ h2
  injection h2 with _ h2
  injection h2 with h2 _
  have := Sl.v_inj h2
  subst this
  exact ⟨f, List.Sublist.refl f, h3⟩
theorem slice_el {h0 h : Heap} {L : List As} {o : MObj} {s : Sl} (S : Fw.Sep h0 h (ownSl si_Lapi_Arg eArg s o.vals :: L)) :
    Fw.Sep h0 h (ownEl eO [.int .i64 o.id, .string o.cls, s.v, .int .i64 o.real.kind, .string o.real.s, .int .i64 o.real.n] o :: L) :=
  S.conv loc_ownEl fun f hf => ⟨f, List.Sublist.refl f, s, rfl, hf⟩

/-- A field of an object of one's own is written. -/
theorem setVal {h0 h : Heap} {L : List As} {out : Sl} {l : List MObj} {k j : Nat} {v : MArg} (S : Fw.Sep h0 h (ownSl si_Lvstate_Obj eO out l :: L)) (hk : k < l.length) (hj : j < l[k].vals.length) :
    ∃ x : Sl, (∀ p, At 6 out k p → hcell h (p.add 2) = some x.v) ∧ rdSl eArg h x l[k].vals ∧ ∀ (ds : Array Value) (K : Heap → Prop), ds.toList = argC v → (∀ h', Fw.Sep h0 h' (ownSl si_Lvstate_Obj eO out (l.set k { l[k] with vals := l[k].vals.set j v }) :: L) → K h') →
      ∀ p, At 3 x j p → ds.size = 3 ∧ st ds.toList h p K := by
  obtain ⟨xs, hxc, S2⟩ := (Sep.raw.2 S).away (i := k) (x := l[k]) (by simpa using hk) (by simp)
  obtain ⟨s, rfl, S3⟩ := el_slice S2.swap
  refine ⟨s, fun p hp => hxc p hp 2 s.v rfl, S3.rd, fun ds K hds hK p hp => ⟨by have := congrArg List.length hds; simpa [argC] using this, ?_⟩⟩
  rw [hds]
  refine st_flat S3 (x := v) (own_arg v) hp rfl hj fun h' S4 => hK h' ?_
  have S5 := (slice_el (o := { l[k] with vals := l[k].vals.set j v }) S4).swap
  have S6 := S5.back (i := k) (by simpa using hk) (by simp)
  refine Sep.raw.1 (S6.cast ?_)
  congr 2
  rw [List.set_set, List.map_set]

theorem setF_place {l : List MObj} (hr : Rising l) {o : MObj} {r : Nat} (p : PlaceF l o.id r) (ho : o ∈ l) (o' : MObj) (hid : o'.id = o.id) : ∃ hrl : r < l.length, l[r] = o ∧ addF l o' = l.set r o' := by
  obtain ⟨z, hz, rfl⟩ := List.getElem_of_mem ho
  have hzr : z = r := by
    rcases Nat.lt_trichotomy z r with h | h | h
    · have := p.low z hz h; omega
    · exact h
    · have hrl : r < l.length := by omega
      have h1 := rising_get hr h hz
      have h2 := p.high r hrl (Nat.le_refl _)
      omega
  subst hzr
  refine ⟨hz, rfl, addF_hit hr (by rw [hid]; exact p) ?_⟩
  unfold hitF
  rw [List.getElem?_eq_getElem hz]
  simp [hid]

set_option maxHeartbeats 1000000 in
theorem vSet_calls {h : Heap} {s : Sl} {l : List MObj} {cs ds : Array Value} {a v : MArg} {at' : Int} (hs : rdSl rObj.el h s l) (ha : rArg.rv h cs.toList a) (hv : rArg.rv h ds.toList v) (hr : Rising l) (hn : l.length ≤ 100000) (hvs : ∀ x ∈ l, x.vals.length ≤ 1000000) :
    ACalls Try.prog F_vstate_Set [s.v, .agg cs, .int .i64 at', .agg ds] h (fun u h' => ∃ s' : Sl, u = .tuple #[s'.v, .bool (setF l a at' v).isSome] ∧ Fw.Sep h h' [ownSl si_Lvstate_Obj eO s' ((setF l a at' v).getD l)]) := by
  refine vstate_Set_of ?_
  unfold vstate_Set
  refine new_rv ha fun p h1 o1 hp => ?_
  refine new_rv (rArg.ext hv o1.ext) fun p1 h2 o2 hp1 => ?_
  have o12 := o1.trans o2
  refine (copied_calls (hs.old o12) (by omega) hvs).mono ?_
  rintro u h3 ⟨out, rfl, S3⟩
  refine ⟨_, rfl, ?_⟩
  refine ld_agg hp (o2.trans S3.old).ext rfl fun c hc => ?_
  refine (find_callsB (a := a) hs (o12.trans S3.old) (rv_arg.2 (rv_arg.1 hc)) hr (by omega)).mono ?_
  rintro u h4 ⟨es, rfl, o4, hes⟩
  refine ⟨_, _, rfl, ?_⟩
  refine new_stX hes (o12.trans (S3.old.trans o4)).ext rfl rfl fun p2 h6 o6 hb => ?_
  have S6 := S3.grow (o4.trans o6)
  intro k hk
  have bad : setF l a at' v = none → k true h6 := fun e => hk _ _ fun _ => ifB_true rfl ⟨out, by rw [e]; rfl, by rw [e]; exact S6.since o12⟩
  cases hf : findF l a with
  | none => exact ifB_true rfl (bad (by unfold setF; rw [hf]))
  | some o =>
    obtain ⟨h5, hol, hoid⟩ := findF_some hf
    rw [hf] at hb
    refine ifB_false rfl ?_
    refine ld_intX (fld_argKind.bx (fld_oReal.bx hb)) ?_
    refine ifB_intro (fun hc => bad ?_) (fun hc => ?_)
    · have hc : o.real.kind ≠ 0 := by simpa using hc
      unfold setF; rw [hf]; simp [hc]
    have hvirt : o.real.kind = 0 := by simpa using hc
    refine ifB_intro (fun hc => bad ?_) (fun hc => ?_)
    · have hc := of_decide_eq_true hc
      unfold setF; rw [hf]; simp only; rw [if_neg (by omega)]
    have hat0 : 0 ≤ at' := by have := of_decide_eq_false hc; omega
    refine ld_lstX (fld_oVals.bx hb) fun x5 hx5 => ?_
    have hx5l : x5.len = o.vals.length := hx5.lenEq
    by_cases hge : (o.vals.length : Int) ≤ at'
    · rw [hx5l, decide_eq_true (show at' ≥ (o.vals.length : Int) from hge)]
      exact bad (by unfold setF; rw [hf]; simp only; rw [if_neg (by omega)])
    rw [hx5l, decide_eq_false (show ¬ at' ≥ (o.vals.length : Int) from hge)]
    have hset : setF l a at' v = some (addF l { o with vals := o.vals.set at'.toNat v }) := by unfold setF; rw [hf]; simp only; rw [if_pos ⟨hvirt, hat0, by omega⟩]
    refine hk _ _ fun _ => ifB_false rfl ?_
    refine ld_intX (fld_oId.bx hb) ?_
    refine (place_calls (rd_obj.1 S6.rd) hr o.id (by omega)).mono ?_
    rintro u h8 ⟨r, rfl, o8, pl⟩
    refine ⟨_, _, rfl, ?_⟩
    obtain ⟨hrl, hre, hadd⟩ := setF_place hr pl hol { o with vals := o.vals.set at'.toNat v } rfl
    have S8 := S6.grow o8
    obtain ⟨j, rfl⟩ : ∃ j : Nat, at' = j := ⟨at'.toNat, by omega⟩
    obtain ⟨x, hx1, hx2, hx3⟩ := setVal (v := v) S8 hrl (j := j) (by rw [hre]; omega)
    refine idx_rdN S8.rd rfl hrl fun p3 hat _ => ?_
    refine ld_one (k := .sl) (x := x) (hx1 p3 hat) ?_
    refine ld_agg hp1 (S8.old).ext rfl fun c3 hc3 => ?_
    refine idx_rdN hx2 rfl (by rw [hre]; omega) fun p4 hat4 _ => ?_
    refine hx3 c3 _ (rv_arg.1 hc3) (fun h9 S9 => ?_) p4 hat4
    refine ⟨out, by rw [hset]; rfl, ?_⟩
    rw [hset]
    simp only [Option.getD_some]
    rw [hadd]
    simp only [Int.toNat_natCast]
    rw [hre] at S9
    exact S9.since o12

end Go.Proofs.Ytncbpalncgcoaaa

/-
  The document's Set.
-/
namespace Go.Proofs.Ytncbpalncgcoaaa
open Go.Fw Go.Pl.Api Go.Pl.Vst

set_option maxHeartbeats 1000000 in
theorem refSet_calls {h : Heap} {s : Sl} {l : List MObj} {cs ds : Array Value} {a v : MArg} {at' : Int} (hs : rdSl rObj.el h s l) (ha : rArg.rv h cs.toList a) (hv : rArg.rv h ds.toList v) (hr : Rising l) (hn : l.length ≤ 100000) (hvs : ∀ x ∈ l, x.vals.length ≤ 1000000) :
    ACalls Try.prog F_lateenref22_Set [s.v, .agg cs, .int .i64 at', .agg ds] h (fun u h' => ∃ s' : Sl, u = .tuple #[s'.v, .bool (setF l a at' v).isSome] ∧ Old h h' ∧ rdSl rObj.el h' s' ((setF l a at' v).getD l)) := by
  refine lateenref22_Set_of ?_
  unfold lateenref22_Set
  refine new_rv ha fun p h1 o1 hp => ?_
  refine new_rv (rArg.ext hv o1.ext) fun p1 h2 o2 hp1 => ?_
  have o12 := o1.trans o2
  refine ld_agg hp o2.ext rfl fun c hc => ?_
  refine (refFind_calls (a := a) (hs.old o12) (rv_arg.2 (rv_arg.1 hc))).mono ?_
  rintro u h3 ⟨es, rfl, o3, hes⟩
  refine ⟨_, _, rfl, ?_⟩
  refine new_stR (Sep.start h3) rfl (size_rv hes) (fun v hv => RV.one _ hes v hv) fun p2 h5 S5 => ?_
  intro k hk
  have oh5 := o12.trans (o3.trans S5.old)
  have bad : ∀ h', Old h5 h' → setF l a at' v = none → k true h' := fun h' o e => hk _ _ fun _ => ifB_true rfl ⟨s, by rw [e]; rfl, oh5.trans o, by rw [e]; exact hs.old (oh5.trans o)⟩
  refine ld_agg hp (o2.trans (o3.trans S5.old)).ext rfl fun c4 hc4 => ?_
  refine (refVirt_calls (a := a) (hs.old oh5) (rv_arg.2 (rv_arg.1 hc4))).mono ?_
  rintro u h11 ⟨rfl, o11⟩
  refine ⟨_, rfl, ?_⟩
  refine ifB_intro (fun hc => bad h11 o11 ?_) (fun hc => ?_)
  · have hc : virtF l a = false := by simpa using hc
    unfold virtF at hc
    unfold setF
    cases hf : findF l a with
    | none => rfl
    | some o =>
      rw [hf] at hc
      have : o.real.kind ≠ 0 := by simpa using hc
      simp [this]
  have hc : virtF l a = true := by simpa using hc
  obtain ⟨o, hf, hvirt⟩ : ∃ o, findF l a = some o ∧ o.real.kind = 0 := by
    unfold virtF at hc
    cases hf : findF l a with
    | none => rw [hf] at hc; cases hc
    | some o => rw [hf] at hc; exact ⟨o, rfl, by simpa using hc⟩
  obtain ⟨h5, hol, hoid⟩ := findF_some hf
  rw [hf] at hes
  have hes : rObj.rv h2 es.toList o := hes
  obtain ⟨sl, rfl, hsl⟩ := arr_obj hes
  refine ifB_intro (fun hc => bad h11 o11 ?_) (fun hc => ?_)
  · have hc := of_decide_eq_true hc
    unfold setF; rw [hf]; simp only; rw [if_neg (by omega)]
  have hat0 : 0 ≤ at' := by have := of_decide_eq_false hc; omega
  have S11 := S5.grow o11
  refine ld_rawB (i := 2) (k := .sl) (x := sl) S11 rfl rfl ?_
  have hsll : sl.len = o.vals.length := hsl.lenEq
  by_cases hge : (o.vals.length : Int) ≤ at'
  · rw [hsll, decide_eq_true (show at' ≥ (o.vals.length : Int) from hge)]
    exact bad h11 o11 (by unfold setF; rw [hf]; simp only; rw [if_neg (by omega)])
  rw [hsll, decide_eq_false (show ¬ at' ≥ (o.vals.length : Int) from hge)]
  have hset : setF l a at' v = some (addF l { o with vals := o.vals.set at'.toNat v }) := by unfold setF; rw [hf]; simp only; rw [if_pos ⟨hvirt, hat0, by omega⟩]
  obtain ⟨j, rfl⟩ : ∃ j : Nat, at' = j := ⟨at'.toNat, by omega⟩
  refine hk _ _ fun _ => ifB_false rfl ?_
  refine ld_rawB (i := 2) (k := .sl) (x := sl) S11 rfl rfl ?_
  have hov := hvs o hol
  refine app_copy (S11.nil rfl) flat_arg (rd_arg.2 (hsl.old (o3.trans S11.old))) (by simp only [List.length_nil, si_Lapi_Arg]; omega) (by simp only [List.length_nil]; omega) fun s1 h7 S7 => ?_
  simp only [List.nil_append] at S7
  refine ld_agg hp1 (o3.trans S7.old).ext rfl fun c2 hc2 => ?_
  refine idx_rdN S7.rd rfl (show j < o.vals.length by omega) fun p3 hat3 _ => ?_
  refine ⟨size_rv hc2, ?_⟩
  rw [rv_arg.1 hc2]
  refine st_flat S7 (x := v) (own_arg v) hat3 rfl (by omega) fun h8 S8 => ?_
  refine st_rawB S8.swap (i := 2) (by simp) rfl fun h9 S9 => ?_
  refine ld_rawAgg S9 rfl ?_
  have hrd : rdSl rArg.el h9 s1 (o.vals.set j v) := rd_arg.1 S9.swap.rd
  have o9 := o12.trans (o3.trans S9.old)
  refine (refAdd_calls (o := { o with vals := o.vals.set j v }) (hs.old o9) (rv_obj.2 ⟨s1, rfl, hrd⟩) hr hn).mono ?_
  rintro u h10 ⟨s', rfl, S10⟩
  refine ⟨_, rfl, s', by rw [hset]; rfl, o9.trans S10.old, ?_⟩
  rw [hset]
  exact fl_rd S10

end Go.Proofs.Ytncbpalncgcoaaa
