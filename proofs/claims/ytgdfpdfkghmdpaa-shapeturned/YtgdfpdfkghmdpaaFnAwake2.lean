/-
  awake, of layer 8: the walk.
-/
import Derived.Test.YtgdfpdfkghmdpaaFnAwake
namespace Go.Proofs.Ytgdfpdfkghmdpaa
open Go.Fw Go.Pl Go.Pl.Api

theorem lit_strs {h : Heap} {n : Nat} {parts : List (Nat × Value)} {K : Sl → Heap → Prop} (l : List ByteArray) (hl : l.length = n) (hfill : Instr.fill (fun i => some (i * si_Lstring.size, si_Lstring.size)) (madeCells si_Lstring.zero.cells (n * si_Lstring.size)) parts = some (l.map fun s => [Value.string s]).flatten.toArray)
    (hn : n ≤ 16777216) (hK : ∀ s h', Old h h' → rdSl rStr.el h' s l → K s h') : bld si_Lstring n parts h K :=
  bld_rv (E := rStr) (l.map fun s => [Value.string s]) l (by simpa using hl) hl (fun i h1 h2 => by rw [List.getElem_map]; rfl) hfill rfl (by show n * 1 ≤ _; omega) hn hK

abbrev funcC (s : Sl) : Array Value := #[.string ⟨#[]⟩, .string ⟨#[]⟩, .slice none 0 0, .slice none 0 0, s.v]
def funcB (bs : List MBlock) : MFunc := ⟨⟨#[]⟩, ⟨#[]⟩, [], [], bs⟩
theorem func_rv {h : Heap} {s : Sl} {bs : List MBlock} (hs : rdSl rBlock.el h s bs) : rFunc.rv h (funcC s).toList (funcB bs) :=
  ⟨[_], _, rfl, rfl, [_], _, rfl, rfl, [_], _, rfl, ⟨⟨none, 0, 0⟩, rfl, rd_nil⟩, [_], _, rfl, ⟨⟨none, 0, 0⟩, rfl, rd_nil⟩, [_], [], rfl, ⟨s, rfl, hs⟩, rfl⟩

abbrev b0 : ByteArray := ⟨#[98, 48]⟩
abbrev b1 : ByteArray := ⟨#[98, 49]⟩
def goodF : MFunc := funcB [jumpB b0 [b1], jumpB b1 []]
def roundF : MFunc := funcB [jumpB b0 [b0]]
def twiceF : MFunc := funcB [jumpB b0 [b1, b1], jumpB b1 []]
theorem good_right : rightB goodF = true := by kernel_rfl
theorem round_right : rightB roundF = false := by kernel_rfl
theorem twice_right : rightB twiceF = false := by kernel_rfl
theorem none_right : rightB (funcB []) = false := by kernel_rfl
theorem good_place : placeV goodF b1 = .tuple #[.int .i64 1, .bool true] := by kernel_rfl

theorem blocks2 {h h' : Heap} {n1 n2 : ByteArray} {s1 s2 : Sl} {t1 t2 : List ByteArray} {K : Sl → Heap → Prop} (h1 : rdSl rStr.el h s1 t1) (h2 : rdSl rStr.el h s2 t2) (hK : ∀ s h', Old h h' → rdSl rBlock.el h' s [jumpB n1 t1, jumpB n2 t2] → K s h') :
    bld si_Lapi_Block 2 [(0, .agg (jumpC n1 s1)), (1, .agg (jumpC n2 s2))] h K :=
  bld_rv (E := rBlock) [(jumpC n1 s1).toList, (jumpC n2 s2).toList] [jumpB n1 t1, jumpB n2 t2] rfl rfl (fun i hi1 hi2 => by
    match i, hi1 with
    | 0, _ => exact jump_rv h1
    | 1, _ => exact jump_rv h2) (by kernel_rfl) rfl (by decide) (by decide) hK
theorem blocks1 {h : Heap} {n1 : ByteArray} {s1 : Sl} {t1 : List ByteArray} {K : Sl → Heap → Prop} (h1 : rdSl rStr.el h s1 t1) (hK : ∀ s h', Old h h' → rdSl rBlock.el h' s [jumpB n1 t1] → K s h') :
    bld si_Lapi_Block 1 [(0, .agg (jumpC n1 s1))] h K :=
  bld_rv (E := rBlock) [(jumpC n1 s1).toList] [jumpB n1 t1] rfl rfl (fun i hi1 hi2 => by
    match i, hi1 with
    | 0, _ => exact jump_rv h1) (by kernel_rfl) rfl (by decide) (by decide) hK

def inM : MIn := ⟨b0, ⟨0, ⟨#[]⟩, 0⟩⟩
def phiM : MPhi := ⟨⟨#[120]⟩, [inM]⟩
def blkM : MBlock := ⟨b1, [phiM], [], ⟨0, ⟨0, ⟨#[]⟩, 0⟩, [], 0⟩⟩
abbrev blkC (s : Sl) : Array Value := #[.string b1, s.v, .slice none 0 0, .int .i64 0, .int .i64 0, .string ⟨#[]⟩, .int .i64 0, .slice none 0 0, .int .i64 0]
theorem blk_rv {h : Heap} {s : Sl} (hs : rdSl rPhi.el h s [phiM]) : rBlock.rv h (blkC s).toList blkM :=
  ⟨[_], _, rfl, rfl, [_], _, rfl, ⟨s, rfl, hs⟩, [_], _, rfl, ⟨⟨none, 0, 0⟩, rfl, rd_nil⟩, _, [], (List.append_nil _).symm,
    ⟨[_], _, rfl, rfl, [.int .i64 0, .string ⟨#[]⟩, .int .i64 0], _, rfl, ⟨[_], _, rfl, rfl, [_], _, rfl, rfl, [_], [], rfl, rfl, rfl⟩, [_], _, rfl, ⟨⟨none, 0, 0⟩, rfl, rd_nil⟩, [_], [], rfl, rfl, rfl⟩, rfl⟩
theorem in_rv {h : Heap} : rIn.rv h [.string b0, .int .i64 0, .string ⟨#[]⟩, .int .i64 0] inM :=
  ⟨[_], _, rfl, rfl, [.int .i64 0, .string ⟨#[]⟩, .int .i64 0], [], rfl, ⟨[_], _, rfl, rfl, [_], _, rfl, rfl, [_], [], rfl, rfl, rfl⟩, rfl⟩
theorem phi_rv {h : Heap} {s : Sl} (hs : rdSl rIn.el h s [inM]) : rPhi.rv h [.string ⟨#[120]⟩, s.v] phiM := ⟨[_], _, rfl, rfl, [_], [], rfl, ⟨s, rfl, hs⟩, rfl⟩
def phiF : MFunc := funcB [jumpB b0 [b1], blkM]
theorem phi_phis : PhisP phiF := by
  intro i hi
  match i, hi with
  | 0, _ => exact ⟨fun _ => rfl, fun x hx => by cases hx⟩
  | 1, _ =>
    refine ⟨fun h => by omega, fun x hx => ?_⟩
    have hw : whoT phiF phiF.blocks.length b1 = [b0] := by kernel_rfl
    have hx' : x = phiM := List.mem_singleton.1 hx
    subst hx'
    show PhiP phiM (whoT phiF phiF.blocks.length b1)
    rw [hw]
    exact ⟨rfl, fun i hi => by rw [List.mem_singleton.1 hi]; exact List.mem_singleton.2 rfl, List.pairwise_singleton _ _⟩

theorem awake_calls {h : Heap} : ACalls Try.prog F_lateenlaw08_awake [] h (fun v h' => v = .bool true ∧ Old h h') := by
  refine lateenlaw08_awake_of ?_
  unfold lateenlaw08_awake
  refine lit_strs [b1] rfl (by kernel_rfl) (by decide) fun s h1 o1 r1 => ?_
  refine (jump_calls b0 s).mono ?_
  rintro v h2 ⟨rfl, o2⟩
  refine ⟨_, rfl, ?_⟩
  refine (jump_calls b1 ⟨none, 0, 0⟩).mono ?_
  rintro v h3 ⟨rfl, o3⟩
  refine ⟨_, rfl, ?_⟩
  refine blocks2 (h' := h) ((r1.old o2).old o3) rd_nil fun s1 h4 o4 r4 => ?_
  refine ⟨funcC s1, by kernel_rfl, ?_⟩
  refine new_st (func_rv r4) rfl rfl fun p h6 o6 hp => ?_
  refine lit_strs [b0] rfl (by kernel_rfl) (by decide) fun s2 h7 o7 r7 => ?_
  refine (jump_calls b0 s2).mono ?_
  rintro v h8 ⟨rfl, o8⟩
  refine ⟨_, rfl, ?_⟩
  refine blocks1 (r7.old o8) fun s3 h9 o9 r9 => ?_
  refine ⟨funcC s3, by kernel_rfl, ?_⟩
  refine new_st (func_rv r9) rfl rfl fun p1 h11 o11 hp1 => ?_
  refine lit_strs [b1, b1] rfl (by kernel_rfl) (by decide) fun s4 h12 o12 r12 => ?_
  refine (jump_calls b0 s4).mono ?_
  rintro v h13 ⟨rfl, o13⟩
  refine ⟨_, rfl, ?_⟩
  refine (jump_calls b1 ⟨none, 0, 0⟩).mono ?_
  rintro v h14 ⟨rfl, o14⟩
  refine ⟨_, rfl, ?_⟩
  refine blocks2 (h' := h) ((r12.old o13).old o14) rd_nil fun s5 h15 o15 r15 => ?_
  refine ⟨funcC s5, by kernel_rfl, ?_⟩
  refine new_st (func_rv r15) rfl rfl fun p2 h17 o17 hp2 => ?_
  refine lit_strs [b1] rfl (by kernel_rfl) (by decide) fun s6 h18 o18 r18 => ?_
  refine (jump_calls b0 s6).mono ?_
  rintro v h19 ⟨rfl, o19⟩
  refine ⟨_, rfl, ?_⟩
  refine ⟨#[.string b0, .int .i64 0, .string ⟨#[]⟩, .int .i64 0], by kernel_rfl, ?_⟩
  refine bld_rv (E := rIn) [[.string b0, .int .i64 0, .string ⟨#[]⟩, .int .i64 0]] [inM] rfl rfl (fun i hi1 hi2 => by
    match i, hi1 with
    | 0, _ => exact in_rv) (by kernel_rfl) rfl (by decide) (by decide) fun s7 h20 o20 r20 => ?_
  refine ⟨#[.string ⟨#[120]⟩, s7.v], by kernel_rfl, ?_⟩
  refine bld_rv (E := rPhi) [[.string ⟨#[120]⟩, s7.v]] [phiM] rfl rfl (fun i hi1 hi2 => by
    match i, hi1 with
    | 0, _ => exact phi_rv r20) (by kernel_rfl) rfl (by decide) (by decide) fun s8 h21 o21 r21 => ?_
  refine ⟨blkC s8, by kernel_rfl, ?_⟩
  refine bld_rv (E := rBlock) [(jumpC b0 s6).toList, (blkC s8).toList] [jumpB b0 [b1], blkM] rfl rfl (fun i hi1 hi2 => by
    match i, hi1 with
    | 0, _ => exact jump_rv (((r18.old o19).old o20).old o21)
    | 1, _ => exact blk_rv r21) (by kernel_rfl) rfl (by decide) (by decide) fun s9 h22 o22 r22 => ?_
  refine ⟨funcC s9, by kernel_rfl, ?_⟩
  refine new_st (func_rv r22) rfl rfl fun p3 h24 o24 hp3 => ?_
  have c18 := o18.trans (o19.trans (o20.trans (o21.trans (o22.trans o24))))
  have c12 := o12.trans (o13.trans (o14.trans (o15.trans (o17.trans c18))))
  have c7 := o7.trans (o8.trans (o9.trans (o11.trans c12)))
  have c1 := o1.trans (o2.trans (o3.trans (o4.trans (o6.trans c7))))
  refine ld_agg hp c7.ext rfl fun x hx => ?_
  refine (place_calls (f := goodF) (rFunc.ext hx c7.ext) b1).mono ?_
  rintro v h25 ⟨rfl, o25⟩
  rw [good_place]
  refine ⟨1, true, rfl, ?_⟩
  intro k hk
  have d7 := c7.trans o25
  refine ld_agg hp d7.ext rfl fun x1 hx1 => ?_
  refine (right_calls (f := goodF) (rFunc.ext hx1 d7.ext) (by decide)).mono ?_
  rintro v h27 ⟨rfl, o27⟩
  refine ⟨_, rfl, ifB_true good_right ?_⟩
  have d12 := c12.trans (o25.trans o27)
  refine ld_agg hp1 d12.ext rfl fun x2 hx2 => ?_
  refine (right_calls (f := roundF) (rFunc.ext hx2 d12.ext) (by decide)).mono ?_
  rintro v h28 ⟨rfl, o28⟩
  refine ⟨_, rfl, ifB_true (by rw [round_right]; rfl) ?_⟩
  have d18 := c18.trans (o25.trans (o27.trans o28))
  refine ld_agg hp2 d18.ext rfl fun x3 hx3 => ?_
  refine (right_calls (f := twiceF) (rFunc.ext hx3 d18.ext) (by decide)).mono ?_
  rintro v h29 ⟨rfl, o29⟩
  refine ⟨_, rfl, ifB_true (by rw [twice_right]; rfl) ?_⟩
  refine ⟨funcC ⟨none, 0, 0⟩, by kernel_rfl, ?_⟩
  refine (right_calls (f := funcB []) (func_rv rd_nil) (by decide)).mono ?_
  rintro v h30 ⟨rfl, o30⟩
  refine ⟨_, rfl, ifB_true (by rw [none_right]; rfl) ?_⟩
  have d24 := o25.trans (o27.trans (o28.trans (o29.trans o30)))
  refine ld_agg hp3 d24.ext rfl fun x4 hx4 => ?_
  refine (phis_calls (f := phiF) (rFunc.ext hx4 d24.ext) (by decide) (fun b hb => ?_)).mono ?_
  · have hb' : b = jumpB b0 [b1] ∨ b = blkM := by simpa [phiF, funcB] using hb
    rcases hb' with rfl | rfl <;> decide
  rintro v h31 ⟨b, rfl, o31, hbp⟩
  refine ⟨_, rfl, ?_⟩
  rw [hbp.2 phi_phis]
  refine ifB_true rfl (ifB_true rfl ?_)
  exact hk _ _ fun _ => ⟨rfl, c1.trans (d24.trans o31)⟩

end Go.Proofs.Ytgdfpdfkghmdpaa
