/- The engine, eleventh part: from a contract to a row; what a reading says of memory. No premise; lemmas only. -/
import Derived.Test.YtkkeeoaencfemaaEngj
import Derived.ProofKit
import Derived.SizedLaws
import Derived.DataReads
namespace Go.Eng
open Go.ChangeShapes Go.WideShapes Go.ChangeAt Go.RowKit

/-! ### From a contract to a law's row -/
/-- All of the memory that the call finds. -/
def allX (W : World) : Fr := [fun k => W.heap[k]?]
theorem sep_all (W : World) : Sep W W ([allX W] ++ []) := ⟨rfl, rfl, by simp [allX], fun f hf k o hk => by simp [allX] at hf; subst hf; exact hk⟩
theorem old_of_sep {W W' : World} {F : List Fr} (h : Sep W W' ([allX W] ++ F)) {k : Nat} (hk : k < W.heap.size) : W'.heap[k]? = W.heap[k]? := by
  have h1 : W.heap[k]? = some W.heap[k] := Array.getElem?_eq_getElem hk
  rw [h1]
  exact h.holds (fun k => W.heap[k]?) (by simp [allX]) k _ h1
theorem look_all {W : World} {G : List Fr} (hm : MemL (allX W) G) {b : Nat} {o : Obj} (h : W.heap[b]? = some o) : Look G b o :=
  ⟨fun k => W.heap[k]?, List.mem_flatten.2 ⟨_, hm.ok, by simp [allX]⟩, h⟩
section lift
variable {H : Type} {enc : TypeId × Value → H} {P : Program}
theorem trodAll_stays (hl : laidOutB P = true) {W W' : World} {sp' : Nat → Bool} : ∀ {ts : List TypeId} {vs : List Value} {ds : List (DataW H)} {ps : List MemPlace}, (∀ t ∈ ts, P.readableRec t = true ∧ t < P.types.size) →
    DataW.TrodAll enc P W 0 (fun _ => true) true ts vs ds ps → (∀ p ∈ ps, W.sameAt W' p) → (∀ p ∈ ps, sp' p.block = true) → DataW.TrodAll enc P W' 0 sp' true ts vs ds ps
  | [], [], [], ps, _, h, _, _ => h
  | [], [], _ :: _, _, _, h, _, _ => h.elim
  | [], _ :: _, _, _, _, h, _, _ => h.elim
  | _ :: _, [], _, _, _, h, _, _ => h.elim
  | _ :: _, _ :: _, [], _, _, h, _, _ => h.elim
  | t :: ts, v :: vs, d :: ds, ps, hr, h, hs, hp => by
    obtain ⟨p, q, h1, h2, rfl⟩ := h
    exact ⟨p, q, WideElems.Trod_stays hl (hr t (by simp)).1 (hr t (by simp)).2 h1 (fun x hx => hs x (by simp [hx])) (fun x hx => hp x (by simp [hx])), trodAll_stays hl (fun t ht => hr t (by simp [ht])) h2 (fun x hx => hs x (by simp [hx])) (fun x hx => hp x (by simp [hx])), rfl⟩
theorem trodAll_length {W : World} {sp : Nat → Bool} : ∀ {ts : List TypeId} {vs : List Value} {ds : List (DataW H)} {ps : List MemPlace}, DataW.TrodAll enc P W 0 sp true ts vs ds ps → ds.length = ts.length
  | [], [], [], _, _ => rfl
  | [], [], _ :: _, _, h => h.elim
  | [], _ :: _, _, _, h => h.elim
  | _ :: _, [], _, _, h => h.elim
  | _ :: _, _ :: _, [], _, h => h.elim
  | _ :: _, _ :: _, _ :: _, _, h => by obtain ⟨_, _, _, h2, _⟩ := h; simp [trodAll_length h2]

/-- A law: whatever comes in, true; what came in reads as it did. -/
theorem law_lifted {C : Checked} {os : Os} {f : FuncId} {fn : Func} {s : ChangeSpec} {bt : TypeId} (hl : laidOutB C.prog = true) (own : ownKnob C.prog.godebug = none) (started : os.Started) (noInit : C.prog.inits.idxOf? f = none) (hfn : C.prog.funcs[f]? = some fn)
    (witness : ∃ (w : World) (tape : Tape) (i : Input), w.os = os ∧ (w.forCall tape i).Shaped C.prog ∧ i.vars = [] ∧ Input.okWide C.prog (w.forCall tape i) .any w.heap.size f i ∧
      s.pre6 enc C.prog fn [] false (w.forCall tape i).memory i.args ∧ ({} : Assume).holds C.prog (lone (Frame.enter C.prog f i.args .normal) [] (w.forCall tape i)))
    (hvars : s.vars = []) (hspec : ∀ ds : List (DataW H), ds.length = fn.params.toList.length → s.fn H ds = { results := [.lit (.bool true)], args := ds }) (hret : fn.resultTypes = #[bt]) (hbt : C.prog.underlying bt = some .bool)
    (hread : ∀ t ∈ fn.params.toList, C.prog.readableRec t = true ∧ t < C.prog.types.size)
    (contract : ∀ (W : World) (base : Nat) (args : Array Value) (ds : List (DataW H)) (ps : List MemPlace), (∀ (j : Nat) t v, fn.params[j]? = some t → args[j]? = some v → Value.okWide C.prog W .any base t v) → DataW.TrodAll enc C.prog W 0 (fun _ => true) true fn.params.toList args.toList ds ps →
      (DataW.weightsEach C.prog fn.params.toList ds).all (· ≤ reachBytes) = true →
      Ct C.prog f args [allX W] (fun v post => v = .bool true ∧ post = [allX W])) :
    ReturnsInHanded {} C os f .any (s.pre6 enc C.prog fn [] false) (s.post enc C.prog fn false true false false) := by
  refine returnsInHanded_of_change_sized own started noInit hfn witness ?_
  intro W base args ds gs before hval hW _ hsz _
  have hW' := hW
  obtain ⟨p, q, hA, hV, rfl, _, _⟩ := hW
  rw [hvars] at hV
  obtain ⟨rfl, rfl⟩ := trodVars_none hV
  have hsz' : (DataW.weightsEach C.prog fn.params.toList ds).all (· ≤ reachBytes) = true := by
    have e : s.plain.varTypes C.prog = [] := by simp [ChangeSpec.plain, DataSpec.varTypes, hvars]
    rw [e] at hsz
    simpa using hsz
  refine (contract W base args ds p hval hA hsz' W W [] (sep_all W)).mono ?_
  rintro e W' ⟨v, post, rfl, ⟨rfl, rfl⟩, hsep⟩
  have hold : ∀ k, k < W.heap.size → W'.heap[k]? = W.heap[k]? := fun k hk => old_of_sep hsep hk
  have hlt : ∀ x ∈ p, x.block < W.heap.size := fun x hx => hW'.lt x (by simp [hx])
  have hsame : ∀ x ∈ p, W.sameAt W' x := fun x hx => by
    cases x with
    | cell b o => exact World.cell?_of_block (w := W) (hold b (hlt _ hx))
    | map b => exact hold b (hlt _ hx)
  have hs := hspec ds (trodAll_length hA)
  refine ⟨_, rfl, ds, [], p ++ [], [], p, [], hW', ?_, ?_, ?_, ⟨hsep.os, hsep.out, fun i hi => ?_⟩, fun h => by cases h⟩
  · rw [List.append_nil, hs, hret]
    exact ⟨[], [], shut_bool hbt true, rfl, rfl⟩
  · rw [List.append_nil, hs]
    exact trodAll_stays hl hread hA hsame (fun x hx => by simpa using hlt x hx)
  · rw [List.append_nil, hs, hvars]
    rfl
  · rw [hold i hi]
    split <;> simp_all
end lift
end Go.Eng
