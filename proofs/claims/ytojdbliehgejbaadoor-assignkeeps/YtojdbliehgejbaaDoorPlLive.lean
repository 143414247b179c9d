/-
  What is live.
-/
import Derived.Test.YtojdbliehgejbaaDoorPlSet
import Derived.Test.YtojdbliehgejbaaDoorPlApi
namespace Go.Pl.Live
open Go.Pl.Api Go.Pl.Set

def argV (a : MArg) : VSet := fun v => a.kind = 1 ∧ a.s = v
def usesV (x : MInstr) : VSet := fun v => (∃ a ∈ x.args, argV a v) ∨ (∃ t ∈ x.stands, ∃ b ∈ t.vars, argV b.a v) ∨ ∃ o ∈ x.objs, ∃ a ∈ o.vals, argV a v
def overV (x : MInstr) (S : VSet) : VSet := fun v => usesV x v ∨ (S v ∧ (x.dst = ⟨#[]⟩ ∨ v ≠ x.dst))
def backV : List MInstr → VSet → VSet
  | [], S => S
  | x :: l, S => overV x (backV l S)
def phiIn (b : MBlock) (from' : ByteArray) : VSet := fun v => ∃ p ∈ b.phis, ∃ i ∈ p.ins, i.block = from' ∧ argV i.a v
def madeV (b : MBlock) : VSet := fun v => ∃ p ∈ b.phis, p.dst = v
def intoV (b : MBlock) (from' : ByteArray) (I : VSet) : VSet := fun v => phiIn b from' v ∨ (I v ∧ ¬ madeV b v)
def endV (f : MFunc) (I : Nat → VSet) (b : MBlock) : VSet := fun v => (∃ n ∈ b.term.to, ∃ k, place f n = some k ∧ ∃ c, f.blocks[k]? = some c ∧ intoV c b.name (I k) v) ∨ ((b.term.kind = 2 ∨ b.term.kind = 3) ∧ argV b.term.a v)
def stepV (f : MFunc) (I : Nat → VSet) (i : Nat) : VSet := fun v => ∃ b, f.blocks[i]? = some b ∧ backV b.code (endV f I b) v
def liveIns (f : MFunc) : Nat → VSet := fun i v => ∀ I : Nat → VSet, (∀ j w, stepV f I j w → I j w) → I i v

theorem overV_mono {x : MInstr} {S T : VSet} (h : ∀ v, S v → T v) : ∀ v, overV x S v → overV x T v := fun _ hv => hv.imp id fun ⟨h1, h2⟩ => ⟨h _ h1, h2⟩
theorem backV_mono {S T : VSet} (h : ∀ v, S v → T v) : ∀ (l : List MInstr) v, backV l S v → backV l T v
  | [], v, hv => h v hv
  | _ :: l, v, hv => overV_mono (backV_mono h l) v hv
theorem endV_mono {f : MFunc} {I J : Nat → VSet} (h : ∀ k v, I k v → J k v) {b : MBlock} : ∀ v, endV f I b v → endV f J b v := fun _ hv =>
  hv.imp (fun ⟨n, hn, k, hk, c, hc, hi⟩ => ⟨n, hn, k, hk, c, hc, hi.imp id fun ⟨h1, h2⟩ => ⟨h _ _ h1, h2⟩⟩) id
theorem stepV_mono {f : MFunc} {I J : Nat → VSet} (h : ∀ k v, I k v → J k v) {i : Nat} : ∀ v, stepV f I i v → stepV f J i v := fun _ ⟨b, hb, hv⟩ => ⟨b, hb, backV_mono (endV_mono h) _ _ hv⟩
theorem live_pre {f : MFunc} {i : Nat} {v : ByteArray} (h : stepV f (liveIns f) i v) : liveIns f i v := fun I hI => hI i v (stepV_mono (fun _ _ hw => hw I hI) v h)
theorem live_post {f : MFunc} {i : Nat} {v : ByteArray} (h : liveIns f i v) : stepV f (liveIns f) i v := h (stepV f (liveIns f)) fun _ w hw => stepV_mono (fun _ _ hz => live_pre hz) w hw
theorem live_fix {f : MFunc} {i : Nat} {v : ByteArray} : liveIns f i v ↔ stepV f (liveIns f) i v := ⟨live_post, live_pre⟩
/-- A fixpoint below the least one is it. -/
theorem live_eq {f : MFunc} {I : Nat → VSet} (hle : ∀ k v, I k v → liveIns f k v) (hfix : ∀ k v, stepV f I k v → I k v) : ∀ k v, I k v ↔ liveIns f k v := fun k v => ⟨hle k v, fun h => h I hfix⟩

/-- All names that are used. -/
def argN (a : MArg) : List ByteArray := if a.kind = 1 then [a.s] else []
def usesN (x : MInstr) : List ByteArray := x.args.flatMap argN ++ (x.stands.flatMap fun t => t.vars.flatMap fun b => argN b.a) ++ x.objs.flatMap fun o => o.vals.flatMap argN
def namesN (f : MFunc) : List ByteArray := f.blocks.flatMap fun b => (b.phis.flatMap fun p => p.ins.flatMap fun i => argN i.a) ++ b.code.flatMap usesN ++ argN b.term.a
theorem argN_mem {a : MArg} {v : ByteArray} : v ∈ argN a ↔ argV a v := by
  unfold argN argV
  split
  · rename_i h
    simp only [List.mem_singleton, h, true_and]
    exact eq_comm
  · rename_i h
    simp [h]
theorem usesN_mem {x : MInstr} {v : ByteArray} : v ∈ usesN x ↔ usesV x v := by
  unfold usesN usesV
  simp only [List.mem_append, List.mem_flatMap, argN_mem, or_assoc]
theorem backV_names {l : List MInstr} {S : VSet} {v : ByteArray} : backV l S v → (∃ x ∈ l, usesV x v) ∨ S v := by
  induction l with
  | nil => exact fun h => .inr h
  | cons x l ih =>
    rintro (h | ⟨h, _⟩)
    · exact .inl ⟨x, by simp, h⟩
    · rcases ih h with ⟨y, hy, hu⟩ | h
      · exact .inl ⟨y, by simp [hy], hu⟩
      · exact .inr h
theorem endV_names {f : MFunc} {I : Nat → VSet} (hI : ∀ k v, I k v → v ∈ namesN f) {i : Nat} {b : MBlock} (hb : f.blocks[i]? = some b) {v : ByteArray} (h : endV f I b v) : v ∈ namesN f := by
  have inb : ∀ {j : Nat} {c : MBlock}, f.blocks[j]? = some c → c ∈ f.blocks := fun h => List.mem_of_getElem? h
  rcases h with ⟨n, _, k, _, c, hc, h⟩ | ⟨_, h⟩
  · rcases h with ⟨p, hp, j, hj, _, ha⟩ | ⟨h, _⟩
    · exact List.mem_flatMap.2 ⟨c, inb hc, List.mem_append.2 (.inl (List.mem_append.2 (.inl (List.mem_flatMap.2 ⟨p, hp, List.mem_flatMap.2 ⟨j, hj, argN_mem.2 ha⟩⟩))))⟩
    · exact hI k v h
  · exact List.mem_flatMap.2 ⟨b, inb hb, List.mem_append.2 (.inr (argN_mem.2 h))⟩
theorem back_names {f : MFunc} {S : VSet} (hS : ∀ v, S v → v ∈ namesN f) {i : Nat} {b : MBlock} (hb : f.blocks[i]? = some b) {l : List MInstr} (hl : ∀ x ∈ l, x ∈ b.code) {v : ByteArray} (h : backV l S v) : v ∈ namesN f := by
  rcases backV_names h with ⟨x, hx, hu⟩ | h
  · exact List.mem_flatMap.2 ⟨b, List.mem_of_getElem? hb, List.mem_append.2 (.inl (List.mem_append.2 (.inr (List.mem_flatMap.2 ⟨x, hl x hx, usesN_mem.2 hu⟩))))⟩
  · exact hS v h

end Go.Pl.Live
