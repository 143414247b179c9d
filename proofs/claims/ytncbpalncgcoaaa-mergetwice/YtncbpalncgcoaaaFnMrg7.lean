/-
  The document's meeting: what is asked of states and rows.
-/
import Derived.Test.YtncbpalncgcoaaaFnMrg6
namespace Go.Proofs.Ytncbpalncgcoaaa
open Go.Fw Go.Pl.Api Go.Pl.Vst Go.Pl.Mrg

theorem to23_calls {h : Heap} (n : Int) : ACalls Try.prog F_lateenref23_to [.int .i64 n] h (fun v h' => v = .agg (argC (toA n)).toArray ∧ Old h h') := by
  refine lateenref23_to_of ?_
  unfold lateenref23_to
  refine new_rawB (Sep.start h) fun p h1 o1 S1 => ?_
  refine bst_ref ?_
  exact st_allB S1 rfl rfl (fun v hv => by simp at hv; rcases hv with rfl | rfl | rfl <;> rfl) fun h2 S2 => ld_rawAgg S2 rfl ⟨rfl, S2.old⟩

def plainF (l : List MArg) : Bool := decide (∀ a ∈ l, a.kind = 5 → a.s = ⟨#[]⟩)
theorem plain_calls {h : Heap} {s : Sl} {l : List MArg} (hs : rdSl rArg.el h s l) :
    ACalls Try.prog F_lateenref23_plain [s.v] h (fun v h' => v = .bool (plainF l) ∧ h' = h) := by
  refine lateenref23_plain_of ?_
  unfold lateenref23_plain
  have hl := hs.lenEq
  have hb := hs.bound
  refine loop_intro (fun m (q : Int) h' => ∃ i : Nat, q = i ∧ i ≤ l.length ∧ m = l.length - i ∧ h' = h ∧ ∀ k (hk : k < l.length), k < i → l[k].kind = 5 → l[k].s = ⟨#[]⟩) l.length
    ⟨0, rfl, by omega, by omega, rfl, fun k _ h => by omega⟩ ?_
  rintro _ _ _ h1 ⟨i, rfl, hi, rfl, rfl, hall⟩
  refine ifB_intro (fun hc => ?_) (fun hc => ?_)
  · have hil : i < l.length := by rw [hl] at hc; simpa using hc
    intro k hk
    have next : (l[i].kind = 5 → l[i].s = ⟨#[]⟩) → k false h1 := fun hh => hk _ _ fun _ => ifB_false rfl (ar_i64 (by omega) (by omega) ⟨l.length - (i + 1), by omega, i + 1, rfl, by omega, rfl, rfl, fun j hj hji => by
      by_cases e : j = i
      · subst e; exact hh
      · exact hall j hj (by omega)⟩)
    have bad : l[i].kind = 5 → ¬ l[i].s = ⟨#[]⟩ → k true h1 := fun h5 hh => hk _ _ fun _ => ifB_true rfl ⟨by
      have : plainF l = false := decide_eq_false fun ha => hh (ha _ (List.getElem_mem hil) h5)
      rw [this], rfl⟩
    refine idx_rdN hs rfl hil fun p _ hp => ld_int (fld_argKind.rd hp) (hExt.refl _) ?_
    refine ifB_intro (fun h5 => ?_) (fun h5 => next fun h => absurd h (by simpa using h5))
    have h5 : l[i].kind = 5 := by simpa using h5
    refine idx_rdN hs rfl hil fun p1 _ hp1 => ld_str (fld_argS'.rd hp1) (hExt.refl _) ?_
    rw [toList_beq]
    by_cases e : l[i].s = ⟨#[]⟩
    · rw [decide_eq_true e]
      exact next fun _ => e
    · rw [decide_eq_false e]
      exact bad h5 e
  · have hil : l.length ≤ i := by rw [hl] at hc; simpa using hc
    have : plainF l = true := decide_eq_true fun a ha => by
      obtain ⟨k, hk, rfl⟩ := List.getElem_of_mem ha
      exact hall k hk (by omega)
    rw [this]
    exact ⟨rfl, rfl⟩

theorem rdSl.imp {α : Type} {E E' : Elem α} {h : Heap} {s : Sl} {l : List α} (r : rdSl E h s l) (hsz : E.size = E'.size) (hi : ∀ p x, p.spot = none → E.rd h p x → E'.rd h p x) : rdSl E' h s l := by
  obtain ⟨h1, h2, h3, h4, h5⟩ := r
  refine ⟨h1, h2, h3, h4, h5.imp id fun ⟨a, ha, hs, hr⟩ => ⟨a, ha, hs, fun i hi' => ?_⟩⟩
  rw [← hsz]
  exact hi _ _ (Addr.spot_add _ _ hs) (hr i hi')
theorem ll_rd {h0 hb h : Heap} {si ri : SlI} {s : Sl} {l : Ways} {L : List As} (S : Fw.Sep h0 h (ownSl si (Elem.sl ri (rObj.fl hb)) s l :: L)) (e : hExt hb h) : rdSl rObj.sl.el h s l := by
  refine rdSl.imp S.rd rfl fun p x hp r => ?_
  obtain ⟨s', hc, hr⟩ := r
  refine ⟨hp, [s'.v], fun j v hj => ?_, s', rfl, RV.fl_el hr e⟩
  rcases j with _ | j
  · rw [Addr.add_zero']
    simp at hj
    subst hj
    exact hc
  · simp at hj

theorem there23_calls {h : Heap} {s : Sl} {l : Ways} (hs : rdSl rObj.sl.el h s l) (hn : l.length ≤ 1000) (hv : ∀ x ∈ l, x.length ≤ 1000000) :
    ACalls Try.prog F_lateenlaw23_there [s.v] h (fun v h' => ∃ s' : Sl, v = s'.v ∧ Old h h' ∧ rdSl rObj.sl.el h' s' l) := by
  refine lateenlaw23_there_of ?_
  unfold lateenlaw23_there
  have hl := hs.lenEq
  have hb := hs.bound
  refine loop_intro (fun m (q : Sl × Int) h' => ∃ i : Nat, q.2 = i ∧ i ≤ l.length ∧ m = l.length - i ∧ Fw.Sep h h' [ownSl si_LLvstate_Obj (Elem.sl si_Lvstate_Obj (rObj.fl h)) q.1 (l.take i)]) l.length
    ⟨0, rfl, by omega, by omega, (Sep.start h).nil rfl⟩ ?_
  rintro _ _ ⟨out, i⟩ h1 ⟨i, hi0, hi, rfl, S⟩
  simp only at hi0 S ⊢
  subst hi0
  refine ifB_intro (fun hc => ?_) (fun hc => ?_)
  · have hil : i < l.length := by rw [hl] at hc; simpa using hc
    refine idx_rdN hs rfl hil fun p _ hp => ?_
    refine ld_lst hp S.old.ext fun x hx => ?_
    refine (there_callsB hx S.old (hv _ (List.getElem_mem hil))).mono ?_
    rintro u h2 ⟨r, rfl, S2⟩
    refine ⟨_, rfl, ?_⟩
    have S3 := (Sep.toEl (S.frame S2)).swap
    refine app1_rule S3 rfl (by decide) (by simp only [List.length_take, si_LLvstate_Obj]; omega) (by simp only [List.length_take]; omega) fun s' h' S' => ?_
    refine ar_i64 (by omega) (by omega) ⟨l.length - (i + 1), by omega, i + 1, rfl, by omega, rfl, ?_⟩
    rw [List.take_succ_eq_append_getElem hil]
    exact S'
  · have hil : l.length ≤ i := by rw [hl] at hc; simpa using hc
    rw [List.take_of_length_le hil] at S
    exact ⟨out, rfl, S.old, ll_rd S S.old.ext⟩

/-- A state, as far as it was gone through. -/
structure SFit (l : Ways) (i k : Nat) : Prop where
  zero : ∀ j o, j < k → (l.getD i [])[j]? = some o → o.real.kind = 0 → o.real = zArg
  len : ∀ j o a p, j < k → (l.getD i [])[j]? = some o → a < i → findF (l.getD a []) (toA o.id) = some p → p.vals.length = o.vals.length

def zCells23 : Array Value := #[.int .i64 0, .string ⟨#[]⟩, .slice none 0 0, .int .i64 0, .string ⟨#[]⟩, .int .i64 0]
def boxAs (cs : Array Value) (v : Value) : As := fun h f => ∃ p : Addr, v = .pointer (some p) ∧ rawB p cs h f
theorem loc_boxAs {cs : Array Value} {v : Value} : Fw.Loc (boxAs cs v) := by
  rintro h h' f ⟨p, e, o⟩ hb
  exact ⟨p, e, loc_rawB o hb⟩
theorem mem_rv {h : Heap} {s : Sl} {l : List MObj} {o : MObj} (hs : rdSl rObj.el h s l) (ho : o ∈ l) : ∃ cs : Array Value, rObj.rv h cs.toList o := by
  obtain ⟨i, hi, rfl⟩ := List.getElem_of_mem ho
  rcases hs.2.2.2.2 with e | ⟨a, _, _, hr⟩
  · subst e; simp at hi
  · obtain ⟨_, cs, _, h2⟩ := hr i hi
    exact ⟨cs.toArray, by simpa using h2⟩
/-- What a document's Find answers. -/
def FoundP (hb : Heap) (x : Option MObj) (v : Value) : Prop := ∃ ds : Array Value, v = .tuple #[.agg ds, .bool x.isSome] ∧ rObj.rv hb ds.toList (x.getD zObj)
def spR (hb : Heap) (id : Int) (x : Option MObj) : Specs := fun n args => if n = 12 then Spec.val (.agg (argC (toA id)).toArray) else if n = 13 then ⟨fun _ => [], FoundP hb x⟩ else if n = 17 then ⟨fun v => [boxAs zCells23 v], fun v => ∃ p : Addr, v = .pointer (some p)⟩
  else match args with
  | [.pointer (some p), .agg c] => ⟨fun _ => [rawB p c], fun _ => True⟩
  | _ => Spec.val (.bool true)

set_option maxHeartbeats 2000000 in
theorem right23_calls {h : Heap} {ls rs : Sl} {l : Ways} {rows : List (List MArg)} (hl : rdSl rObj.sl.el h ls l) (hrs : rdSl rArg.sl.el h rs rows) :
    ACalls Try.prog F_lateenref23_Right [ls.v, rs.v] h (fun v h' => ∃ b : Bool, v = .bool b ∧ Old h h' ∧ (b = true → Fit l rows)) := by
  refine lateenref23_Right_of ?_
  unfold lateenref23_Right
  have hll := hl.lenEq
  have hrl := hrs.lenEq
  have hlb := hl.bound
  have hrb := hrs.bound
  have no : ∀ {h' : Heap}, Old h h' → ∃ b : Bool, Value.bool false = .bool b ∧ Old h h' ∧ (b = true → Fit l rows) := fun o => ⟨false, rfl, o, fun e => by cases e⟩
  intro k hk
  have bad : k true h := hk _ _ fun _ => ifB_true rfl (no (.refl _))
  refine ifB_intro (fun _ => bad) (fun hc0 => ?_)
  have hl0 : 0 < l.length := by
    rw [hll] at hc0
    have : ¬ (l.length : Int) = 0 := by simpa using hc0
    omega
  refine ifB_intro (fun _ => bad) (fun hc6 => ?_)
  have hl6 : l.length ≤ 6 := by
    rw [hll] at hc6
    have := of_decide_eq_false hc6
    omega
  by_cases hr20 : rows.length ≤ 20
  case neg =>
    rw [hrl, decide_eq_true (show (rows.length : Int) > 20 by omega)]
    exact bad
  rw [hrl, decide_eq_false (show ¬ (rows.length : Int) > 20 by omega)]
  refine hk _ _ fun _ => ifB_false rfl ?_
  clear bad hk k hc0 hc6
  refine loop_intro (fun n (q : Int) h' => ∃ i : Nat, q = i ∧ i ≤ l.length ∧ n = l.length - i ∧ Old h h' ∧ ∀ a, a < i → fewF (l.getD a []) = true ∧ rightF (l.getD a []) = true ∧ SFit l a (l.getD a []).length) l.length
    ⟨0, rfl, by omega, by omega, .refl _, fun a ha => by omega⟩ ?_
  rintro _ _ _ h2 ⟨i, rfl, hi, rfl, o2, hall⟩
  refine ifB_intro (fun hc => ?_) (fun hc => ?_)
  · have hil : i < l.length := by rw [hll] at hc; simpa using hc
    have hgi : l.getD i [] = l[i] := by simp [List.getElem?_eq_getElem hil]
    intro k1 hk1
    have main : ∀ h3, Old h h3 → fewF l[i] = true → rightF l[i] = true → k1 false h3 := fun h3 o3 hfew hright => hk1 _ _ fun _ => ifB_false rfl <| by
      refine loop_intro (fun n (q : Int) h' => ∃ k : Nat, q = k ∧ k ≤ l[i].length ∧ n = l[i].length - k ∧ Old h h' ∧ SFit l i k) l[i].length
        ⟨0, rfl, by omega, by omega, o3, ⟨fun j o hj => by omega, fun j o a p hj => by omega⟩⟩ ?_
      rintro _ _ _ h4 ⟨k, rfl, hkl, rfl, o4, F⟩
      refine idx_rdN hl rfl hil fun p _ hp => ld_lst hp o4.ext fun x hx => ?_
      have hxl := hx.lenEq
      have hxb : l[i].length ≤ 9223372036854775807 := hx.bound
      refine ifB_intro (fun hc => ?_) (fun hc => ?_)
      · have hkk : k < l[i].length := by rw [hxl] at hc; simpa using hc
        have hgk : (l.getD i [])[k]? = some l[i][k] := by rw [hgi]; exact List.getElem?_eq_getElem hkk
        intro k3 hk3
        have inner : (l[i][k].real.kind = 0 → l[i][k].real = zArg) → k3 false h4 := fun hz => hk3 _ _ fun _ => ifB_false rfl <| by
          refine loop_intro (fun n (q : Int) h' => ∃ j : Nat, q = j ∧ j ≤ i ∧ n = i - j ∧ Old h h' ∧ ∀ a p, a < j → findF (l.getD a []) (toA l[i][k].id) = some p → p.vals.length = l[i][k].vals.length) i
            ⟨0, rfl, by omega, by omega, o4, fun a p ha => by omega⟩ ?_
          rintro _ _ _ h6 ⟨j, rfl, hji, rfl, o6, hlens⟩
          refine ifB_intro (fun hc => ?_) (fun hc => ?_)
          · have hjl : j < i := by simpa using hc
            have hjL : j < l.length := by omega
            have hgj : l.getD j [] = l[j] := by simp [List.getElem?_eq_getElem hjL]
            have hli := hl.old o6
            refine ⟨Old h6, h6, [], spR h6 l[i][k].id (findF l[j] (toA l[i][k].id)), .refl _, Sep.start _, ?_⟩
            refine idx_rdN hli rfl hjL fun p1 _ hp1 => ldF_old (ld_lst hp1 (hExt.refl _) fun x1 hx1 => ?_)
            refine idx_rdN hli rfl hil fun p2 _ hp2 => ldF_old (ld_lst hp2 (hExt.refl _) fun x2 hx2 => ?_)
            refine idx_rdN hx2 rfl hkk fun p3 _ hp3 => ldF_old (ld_int (fld_oId.rd hp3) (hExt.refl _) ?_)
            refine fcV (k := .agg 3) (x := (argC (toA l[i][k].id)).toArray) (fun _ => rfl) (fun h' X o' S => to23_calls _) ⟨_, rfl, ?_⟩
            generalize hX : findF l[j] (toA l[i][k].id) = X at *
            have hXrv : ∃ ds : Array Value, rObj.rv h6 ds.toList (X.getD zObj) := by
              cases X with
              | none => exact ⟨zCells23, rv_zObj⟩
              | some o => exact mem_rv hx1 (findF_some hX).2.1
            obtain ⟨ds0, hds0⟩ := hXrv
            refine ⟨⟨_, ds0, rfl, hds0⟩, fun h' Y o' S => ?_, ?_⟩
            · refine (refFind_callsB (a := toA l[i][k].id) hx1 o' rv_argC).mono ?_
              rintro u h'' ⟨ds, rfl, o'', hrv⟩
              rw [hX] at hrv ⊢
              exact ⟨ds, _, rfl, o'.trans o'', ⟨ds, rfl, hrv⟩, Sep.grow S o''⟩
            rintro _ ⟨ds, rfl, hds⟩
            refine ⟨_, _, rfl, ?_⟩
            refine ⟨⟨.pointer (some ⟨0, 0, none⟩), _, rfl⟩, fun h' Y o' S => ?_, ?_⟩
            · exact new_rawB S fun p' h'' o'' S'' => ⟨o'.trans o'', ⟨p', rfl⟩, S''.conv loc_boxAs fun f o => ⟨f, .refl f, p', rfl, o⟩⟩
            rintro _ ⟨p5, rfl⟩
            refine ⟨p5, rfl, ?_⟩
            refine ⟨⟨undef, trivial⟩, fun h' Y o' S => ?_, fun _ _ => ?_⟩
            · have S' : Fw.Sep h6 h' (rawB p5 zCells23 :: Y) := Sep.conv (A := boxAs zCells23 (.pointer (some p5))) S loc_rawB fun f ⟨q, e, o⟩ => by cases e; exact ⟨f, .refl f, o⟩
              exact st_allB S' rfl (size_rv hds) (fun v hv => RV.one _ hds v hv) fun h'' S'' => ⟨S''.old, trivial, S''⟩
            intro h16 o16 S16
            have S16 : Fw.Sep h6 h16 (rawB p5 ds :: []) := S16
            have hc5 := rawB_cell S16
            have hp5 : rObj.el.rd h16 p5 (X.getD zObj) := ⟨hc5.1, ds.toList, fun j' v hj => by rw [hc5.2]; simpa using hj, rObj.ext hds o16.ext⟩
            have o016 := o6.trans o16
            intro k4 hk4
            have next : (∀ p, X = some p → p.vals.length = l[i][k].vals.length) → k4 false h16 := fun hh => hk4 _ _ fun _ => ifB_false rfl (ar_i64 (by omega) (by omega) ⟨i - (j + 1), by omega, j + 1, rfl, by omega, rfl, o016, fun a p ha hf => by
              by_cases e : a = j
              · subst e
                rw [hgj, hX] at hf
                exact hh p hf
              · exact hlens a p (by omega) hf⟩)
            cases X with
            | none => exact ifB_false rfl (next fun p hp => by cases hp)
            | some o =>
              refine ifB_true rfl ?_
              refine ld_lst (fld_oVals.rd hp5) (hExt.refl _) fun x4 hx4 => ?_
              refine idx_rdN hl rfl hil fun p6 _ hp6 => ld_lst hp6 o016.ext fun x5 hx5 => ?_
              refine idx_rdN hx5 rfl hkk fun p7 _ hp7 => ld_lst (fld_oVals.rd hp7) o016.ext fun x6 hx6 => ?_
              rw [hx4.lenEq, hx6.lenEq]
              by_cases e : o.vals.length = l[i][k].vals.length
              · have : (((Option.some o).getD zObj).vals.length : Int) != (l[i][k].vals.length : Int) ↔ False := by simp [e]
                have : ((((Option.some o).getD zObj).vals.length : Int) != (l[i][k].vals.length : Int)) = false := by simpa using this
                rw [this]
                exact next fun p hp => by cases hp; exact e
              · have : ((((Option.some o).getD zObj).vals.length : Int) != (l[i][k].vals.length : Int)) = true := by
                  simp
                  omega
                rw [this]
                exact hk4 _ _ fun _ => ifB_true rfl (no o016)
          · have hjl : j = i := by have := of_decide_eq_false hc; omega
            subst hjl
            refine ar_i64 (by omega) (by omega) ⟨l[j].length - (k + 1), by omega, k + 1, rfl, by omega, rfl, o6, ⟨fun j' o hj' ho hk0 => ?_, fun j' o a p hj' ho ha hf => ?_⟩⟩
            · by_cases e : j' = k
              · subst e
                rw [hgk] at ho
                cases ho
                exact hz hk0
              · exact F.zero j' o (by omega) ho hk0
            · by_cases e : j' = k
              · subst e
                rw [hgk] at ho
                cases ho
                exact hlens a p ha hf
              · exact F.len j' o a p (by omega) ho ha hf
        refine idx_rdN hl rfl hil fun p8 _ hp8 => ld_lst hp8 o4.ext fun x7 hx7 => ?_
        refine idx_rdN hx7 rfl hkk fun p9 _ hp9 => ?_
        refine ld_int (fld_argKind.rd (fld_oReal.rd hp9)) o4.ext ?_
        refine ifB_intro (fun h0 => ?_) (fun h0 => inner fun e => absurd e (by simpa using h0))
        refine idx_rdN hl rfl hil fun p10 _ hp10 => ld_lst hp10 o4.ext fun x9 hx9 => ?_
        refine idx_rdN hx9 rfl hkk fun p11 _ hp11 => ?_
        refine ld_agg (fld_oReal.rd hp11) o4.ext rfl fun x10 hx10 => ?_
        refine bst_z ?_
        refine eq_arg (h' := h4) (b := zArg) hx10 rv_argC ?_
        by_cases e : l[i][k].real = zArg
        · rw [decide_eq_true e]
          exact inner fun _ => e
        · rw [decide_eq_false e]
          exact hk3 _ _ fun _ => ifB_true rfl (no o4)
      · have hkk : k = l[i].length := Nat.le_antisymm hkl (by rw [hxl] at hc; simpa using hc)
        refine ar_i64 (by omega) (by omega) ⟨l.length - (i + 1), by omega, i + 1, rfl, by omega, rfl, o4, fun a ha => ?_⟩
        by_cases e : a = i
        · subst e
          rw [hgi, ← hkk]
          exact ⟨hfew, hright, F⟩
        · exact hall a (by omega)
    refine idx_rdN hl rfl hil fun p12 _ hp12 => ld_lst hp12 o2.ext fun x11 hx11 => ?_
    refine (few_calls (hx11.old o2)).mono ?_
    rintro u h18 ⟨rfl, rfl⟩
    refine ⟨_, rfl, ifB_intro (fun _ => hk1 _ _ fun _ => ifB_true rfl (no o2)) (fun hf => ?_)⟩
    refine idx_rdN hl rfl hil fun p13 _ hp13 => ld_lst hp13 o2.ext fun x12 hx12 => ?_
    refine (refRight_calls (hx12.old o2)).mono ?_
    rintro u h19 ⟨rfl, o19⟩
    refine ⟨_, rfl, ?_⟩
    by_cases hr : rightF l[i] = true
    · rw [hr]
      exact main h19 (o2.trans o19) (by simpa using hf) hr
    · rw [Bool.eq_false_iff.2 hr]
      exact hk1 _ _ fun _ => ifB_true rfl (no (o2.trans o19))
  have hil : i = l.length := Nat.le_antisymm hi (by rw [hll] at hc; simpa using hc)
  subst hil
  clear hc hi
  have hR : ∀ s ∈ l, ∃ a, ∃ ha : a < l.length, l[a] = s := fun s hs => List.getElem_of_mem hs
  refine loop_intro (fun n (q : Int) h' => ∃ i : Nat, q = i ∧ i ≤ rows.length ∧ n = rows.length - i ∧ Old h h' ∧ ∀ a (ha : a < rows.length), a < i → rows[a].length = l.length ∧ plainF rows[a] = true) rows.length
    ⟨0, rfl, by omega, by omega, o2, fun a _ ha => by omega⟩ ?_
  rintro _ _ _ h20 ⟨i, rfl, hi, rfl, o20, hrow⟩
  refine ifB_intro (fun hc => ?_) (fun hc => ?_)
  · have hil : i < rows.length := by rw [hrl] at hc; simpa using hc
    intro k5 hk5
    refine idx_rdN hrs rfl hil fun p14 _ hp14 => ld_lst hp14 o20.ext fun x13 hx13 => ?_
    refine ifB_intro (fun _ => hk5 _ _ fun _ => ifB_true rfl (no o20)) (fun he => ?_)
    rw [hx13.lenEq, hll] at he
    have he : rows[i].length = l.length := by
      have : ((rows[i].length : Int)) = (l.length : Int) := by simpa using he
      omega
    refine idx_rdN hrs rfl hil fun p15 _ hp15 => ld_lst hp15 o20.ext fun x14 hx14 => ?_
    refine (plain_calls (hx14.old o20)).mono ?_
    rintro u h22 ⟨rfl, rfl⟩
    refine ⟨_, rfl, ?_⟩
    by_cases hp : plainF rows[i] = true
    · rw [hp]
      refine hk5 _ _ fun _ => ifB_false rfl (ar_i64 (by omega) (by omega) ⟨rows.length - (i + 1), by omega, i + 1, rfl, by omega, rfl, o20, fun a ha hai => ?_⟩)
      by_cases e : a = i
      · subst e; exact ⟨he, hp⟩
      · exact hrow a ha (by omega)
    · rw [Bool.eq_false_iff.2 hp]
      exact hk5 _ _ fun _ => ifB_true rfl (no o20)
  have hir : rows.length ≤ i := by rw [hrl] at hc; simpa using hc
  clear hc
  refine loop_intro (fun n (q : Int) h' => ∃ i : Nat, q = i ∧ i ≤ l.length ∧ n = l.length - i ∧ Old h h' ∧ ∀ a (ha : a < l.length), a < i → ∀ o ∈ l[a], plainF o.vals = true) l.length
    ⟨0, rfl, by omega, by omega, o20, fun a _ ha => by omega⟩ ?_
  rintro _ _ _ h23 ⟨j, rfl, hj, rfl, o23, hpl⟩
  refine ifB_intro (fun hc => ?_) (fun hc => ?_)
  · have hjl : j < l.length := by rw [hll] at hc; simpa using hc
    refine loop_intro (fun n (q : Int) h' => ∃ k : Nat, q = k ∧ k ≤ l[j].length ∧ n = l[j].length - k ∧ Old h h' ∧ ∀ b (hb : b < l[j].length), b < k → plainF l[j][b].vals = true) l[j].length
      ⟨0, rfl, by omega, by omega, o23, fun b _ hb => by omega⟩ ?_
    rintro _ _ _ h24 ⟨k, rfl, hk, rfl, o24, hpk⟩
    refine idx_rdN hl rfl hjl fun p16 _ hp16 => ld_lst hp16 o24.ext fun x15 hx15 => ?_
    have hx15b : l[j].length ≤ 9223372036854775807 := hx15.bound
    refine ifB_intro (fun hc => ?_) (fun hc => ?_)
    · have hkk : k < l[j].length := by rw [hx15.lenEq] at hc; simpa using hc
      refine idx_rdN hl rfl hjl fun p17 _ hp17 => ld_lst hp17 o24.ext fun x16 hx16 => ?_
      refine idx_rdN hx16 rfl hkk fun p18 _ hp18 => ld_lst (fld_oVals.rd hp18) o24.ext fun x17 hx17 => ?_
      refine (plain_calls (hx17.old o24)).mono ?_
      rintro u h25 ⟨rfl, rfl⟩
      refine ⟨_, rfl, ifB_intro (fun _ => no o24) (fun hp => ?_)⟩
      have hp : plainF l[j][k].vals = true := by simpa using hp
      refine ar_i64 (by omega) (by omega) ⟨l[j].length - (k + 1), by omega, k + 1, rfl, by omega, rfl, o24, fun b hb hbk => ?_⟩
      by_cases e : b = k
      · subst e; exact hp
      · exact hpk b hb (by omega)
    · have hkk : l[j].length ≤ k := by rw [hx15.lenEq] at hc; simpa using hc
      refine ar_i64 (by omega) (by omega) ⟨l.length - (j + 1), by omega, j + 1, rfl, by omega, rfl, o24, fun a ha haj o ho => ?_⟩
      by_cases e : a = j
      · subst e
        obtain ⟨b, hb, rfl⟩ := List.getElem_of_mem ho
        exact hpk b hb (by omega)
      · exact hpl a ha (by omega) o ho
  have hjl : l.length ≤ j := by rw [hll] at hc; simpa using hc
  refine ⟨true, rfl, o23, fun _ => ?_⟩
  have gd : ∀ a (ha : a < l.length), l.getD a [] = l[a] := fun a ha => by simp [List.getElem?_eq_getElem ha]
  have pair : ∀ a b (ha : a < l.length) (hb : b < l.length), a < b → ∀ o p id, findF l[a] (toA id) = some o → findF l[b] (toA id) = some p → o.vals.length = p.vals.length := fun a b ha hb hab o p id ho hp => by
    obtain ⟨_, hpm, hpid⟩ := findF_some hp
    obtain ⟨c, hc, rfl⟩ := List.getElem_of_mem hpm
    have F := (hall b hb).2.2
    have hid : l[b][c].id = id := hpid
    refine F.len c l[b][c] a o (by rw [gd b hb]; exact hc) (by rw [gd b hb]; exact List.getElem?_eq_getElem hc) hab ?_
    rw [gd a ha, hid]
    exact ho
  refine ⟨hl0, hl6, hr20, fun s hs => ?_, fun s hs => ?_, fun s hs o ho h0 => ?_, fun s hs t ht o p id ho hp => ?_, fun r hr => ?_, fun r hr => ?_, fun s hs o ho => ?_⟩
  · obtain ⟨a, ha, rfl⟩ := hR s hs
    have := (hall a ha).1
    rwa [gd a ha] at this
  · obtain ⟨a, ha, rfl⟩ := hR s hs
    have := (hall a ha).2.1
    rwa [gd a ha] at this
  · obtain ⟨a, ha, rfl⟩ := hR s hs
    obtain ⟨c, hc, rfl⟩ := List.getElem_of_mem ho
    exact (hall a ha).2.2.zero c l[a][c] (by rw [gd a ha]; exact hc) (by rw [gd a ha]; exact List.getElem?_eq_getElem hc) h0
  · obtain ⟨a, ha, rfl⟩ := hR s hs
    obtain ⟨b, hb, rfl⟩ := hR t ht
    rcases Nat.lt_trichotomy a b with h1 | h1 | h1
    · exact pair a b ha hb h1 o p id ho hp
    · subst h1
      rw [ho] at hp
      cases hp
      rfl
    · exact (pair b a hb ha h1 p o id hp ho).symm
  · obtain ⟨a, ha, rfl⟩ := List.getElem_of_mem hr
    exact (hrow a ha (by omega)).1
  · obtain ⟨a, ha, rfl⟩ := List.getElem_of_mem hr
    exact of_decide_eq_true (hrow a ha (by omega)).2
  · obtain ⟨a, ha, rfl⟩ := hR s hs
    exact of_decide_eq_true (hpl a ha (by omega) o ho)

end Go.Proofs.Ytncbpalncgcoaaa
