/- The engine, twelfth part: what a reading says of memory. No premise; lemmas only. -/
import Derived.Test.YtkkeeoaencfemaaEngk
namespace Go.Eng
section rd
variable {H : Type} {enc : TypeId × Value → H} {P : Program} {W : World} {t e : TypeId}
/-- It reads: cells of a type, in whatever way. -/
def Rds (enc : TypeId × Value → H) (P : Program) (W : World) (t : TypeId) (cs : List Value) : Prop := ∃ fuel x, DataW.trod enc P W 0 (fun _ => true) true fuel t cs = some x
theorem Rds.of_trod {v : Value} {d : DataW H} {ps : List MemPlace} (h : DataW.Trod enc P W 0 (fun _ => true) true t v d ps) : Rds enc P W t v.cells.toList := by
  obtain ⟨fuel, h⟩ := h; exact ⟨fuel, _, h⟩
theorem Rds.int {cs : List Value} {k : IntKind} (h : Rds enc P W t cs) (ht : P.underlying t = some (.int k)) : ∃ a, cs = [.int k a] ∧ (Lit.int k a).wf = true := by
  obtain ⟨fuel, x, h⟩ := h
  cases fuel with
  | zero => cases h
  | succ fuel =>
    unfold DataW.trod at h
    rw [ht] at h
    split at h <;> simp_all
theorem Rds.bool {cs : List Value} (h : Rds enc P W t cs) (ht : P.underlying t = some .bool) : ∃ b, cs = [.bool b] := by
  obtain ⟨fuel, x, h⟩ := h
  cases fuel with
  | zero => cases h
  | succ fuel =>
    unfold DataW.trod at h
    rw [ht] at h
    split at h <;> simp_all
theorem Rds.struct {cs : List Value} {fs : Array Field} (h : Rds enc P W t cs) (ht : P.underlying t = some (.struct fs)) : cs.length = P.cellsOf t ∧ ∀ f ∈ fs, Rds enc P W f.type (seg cs f.offset (P.cellsOf f.type)) := by
  obtain ⟨fuel, x, h⟩ := h
  cases fuel with
  | zero => cases h
  | succ fuel =>
    unfold DataW.trod at h
    rw [ht] at h
    simp only at h
    split at h
    · rename_i hl
      refine ⟨hl, fun f hf => ?_⟩
      simp only [Option.map_eq_some_iff] at h
      obtain ⟨xs, hxs, _⟩ := h
      obtain ⟨i, hi, hfi⟩ := List.getElem_of_mem (Array.mem_toList_iff.2 hf)
      have := mapM_some_get hxs i f (by rw [← hfi]; exact List.getElem?_eq_getElem hi)
      have hlt : i < xs.length := by rw [mapM_some_length hxs]; exact hi
      rw [List.getElem?_eq_getElem hlt] at this
      exact ⟨fuel, _, this⟩
    · cases h
theorem Rds.field {cs : List Value} {fs : Array Field} {i k off : Nat} {ft : TypeId} (h : Rds enc P W t cs) (ht : P.underlying t = some (.struct fs)) (hi : (fs[i]?).map (fun f => (f.type, f.offset)) = some (ft, off)) (hk : P.cellsOf ft = k) : Rds enc P W ft (seg cs off k) := by
  cases hf : fs[i]? with
  | none => simp [hf] at hi
  | some f =>
    simp only [hf, Option.map_some, Option.some.injEq, Prod.mk.injEq] at hi
    obtain ⟨rfl, rfl⟩ := hi
    subst hk
    exact (h.struct ht).2 f (Array.mem_of_getElem? hf)
theorem Rds.array {cs : List Value} {n : Nat} (h : Rds enc P W t cs) (ht : P.underlying t = some (.array n e)) : cs.length = P.cellsOf t ∧ ∀ i, i < n → Rds enc P W e (seg cs (i * P.cellsOf e) (P.cellsOf e)) := by
  obtain ⟨fuel, x, h⟩ := h
  cases fuel with
  | zero => cases h
  | succ fuel =>
    unfold DataW.trod at h
    rw [ht] at h
    simp only at h
    split at h
    · rename_i hl
      refine ⟨hl, fun i hi => ?_⟩
      simp only [Option.map_eq_some_iff] at h
      obtain ⟨xs, hxs, _⟩ := h
      have := mapM_some_get hxs i i (by simp [hi])
      have hlt : i < xs.length := by rw [mapM_some_length hxs]; simpa using hi
      rw [List.getElem?_eq_getElem hlt] at this
      exact ⟨fuel, _, this⟩
    · cases h
/-- A slice that reads. -/
theorem Rds.slice {cs : List Value} (h : Rds enc P W t cs) (ht : P.underlying t = some (.slice e)) (hsz : 0 < P.cellsOf e) :
    ∃ p len cap, cs = [.slice p len cap] ∧ len ≤ cap ∧ cap ≤ maxLen ∧ (len = 0 ∨ ∃ b off arr T fz, p = some ⟨b, off, none⟩ ∧ W.heap[b]? = some (.cells arr T fz) ∧
      ∀ i, i < len → (seg arr.toList (off + i * P.cellsOf e) (P.cellsOf e)).length = P.cellsOf e ∧ Rds enc P W e (seg arr.toList (off + i * P.cellsOf e) (P.cellsOf e))) := by
  obtain ⟨fuel, x, h⟩ := h
  cases fuel with
  | zero => cases h
  | succ fuel =>
    unfold DataW.trod at h
    rw [ht] at h
    split at h
    all_goals try (rename_i heq _; cases heq; done)
    all_goals try (rename_i heq; cases heq; done)
    all_goals try (rename_i heq _ _; cases heq; done)
    all_goals try (cases h; done)
    · exact ⟨none, 0, 0, rfl, Nat.le_refl _, by simp [maxLen], .inl rfl⟩
    · rename_i e' a len cap heq
      cases heq
      dsimp only at h
      split at h
      · rename_i hb
        refine ⟨some a, len, cap, rfl, hb.2.1, hb.2.2, ?_⟩
        rcases Nat.eq_zero_or_pos len with h0 | hpos
        · exact .inl h0
        · right
          simp only [Option.bind_eq_some_iff] at h
          obtain ⟨elems, he, _⟩ := h
          have key : ∀ i, i < len → ∃ cs y, W.cells? 0 (a.add (i * P.cellsOf e)) (P.cellsOf e) = some cs ∧ DataW.trod enc P W 0 (fun _ => true) true fuel e cs = some y := by
            intro i hi
            have := mapM_some_get he i i (by simp [hi])
            have hlt : i < elems.length := by rw [mapM_some_length he]; simpa using hi
            rw [List.getElem?_eq_getElem hlt] at this
            obtain ⟨cs, h1, h2⟩ := Option.bind_eq_some_iff.1 this
            exact ⟨cs, _, h1, h2⟩
          obtain ⟨cs0, _, hc0, _⟩ := key 0 hpos
          obtain ⟨_, hl0, hg0⟩ := World.cells?_some hc0
          have h00 := hg0 0 hsz
          have hlt0 : 0 < cs0.length := by omega
          rw [List.getElem?_eq_getElem hlt0] at h00
          obtain ⟨b, off, spot⟩ := a
          have hspot := World.cell?_spot h00
          have hsp : spot = none := by
            unfold Addr.add at hspot
            split at hspot
            · simpa using hspot
            · split at hspot <;> simp_all
          subst hsp
          rw [Nat.zero_mul, Addr.add_lit, Addr.add_lit] at h00
          unfold World.cell? at h00
          split at h00
          · rename_i arr T fz harr
            refine ⟨b, off, arr, T, fz, rfl, harr, fun i hi => ?_⟩
            obtain ⟨cs, y, hc, hy⟩ := key i hi
            obtain ⟨_, hl, hg⟩ := World.cells?_some hc
            have hseg : seg arr.toList (off + i * P.cellsOf e) (P.cellsOf e) = cs := by
              apply List.ext_getElem?
              intro j
              by_cases hj : j < P.cellsOf e
              · have h1 := hg j hj
                rw [Addr.add_lit, Addr.add_lit, cell_of_row W b _ arr T fz harr] at h1
                rw [← h1]
                simp only [seg, List.getElem?_take, if_pos hj, List.getElem?_drop, Array.getElem?_toList]
              · simp only [seg, List.getElem?_take, if_neg hj]
                exact (List.getElem?_eq_none (by omega)).symm
            rw [hseg]
            exact ⟨hl, fuel, y, hy⟩
          · cases h00
      · cases h
/-- Rows for the elements, one by one. -/
theorem pick_list {α : Type} {Q : Nat → α → Prop} : ∀ (n : Nat), (∀ i, i < n → ∃ r, Q i r) → ∃ l : List α, l.length = n ∧ ∀ (i : Nat) r, l[i]? = some r → Q i r
  | 0, _ => ⟨[], rfl, fun i r h => by simp at h⟩
  | n + 1, h => by
    obtain ⟨l, hl, hq⟩ := pick_list n (fun i hi => h i (by omega))
    obtain ⟨r, hr⟩ := h n (by omega)
    refine ⟨l ++ [r], by simp [hl], fun i x hx => ?_⟩
    by_cases hi : i < l.length
    · rw [List.getElem?_append_left hi] at hx; exact hq i x hx
    · have hlt := (List.getElem?_eq_some_iff.1 hx).1
      simp at hlt
      have : i = l.length := by omega
      subst this
      rw [List.getElem?_append_right (Nat.le_refl _), Nat.sub_self] at hx
      cases hx
      rw [hl]; exact hr
theorem seg_flat {α : Type} {f : α → List Value} {k : Nat} (cs : List Value) (off : Nat) : ∀ (l : List α), (∀ (i : Nat) a, l[i]? = some a → seg cs (off + i * k) k = f a) → (∀ (a : α), a ∈ l → (f a).length = k) → seg cs off (l.length * k) = flat f l := by
  intro l
  induction l generalizing off with
  | nil => intro _ _; simp [seg, flat]
  | cons a l ih =>
    intro h hk
    have h0 := h 0 a rfl
    have hl := hk a (by simp)
    have ih' := ih (off + k) (fun i b hb => by have := h (i + 1) b (by simpa using hb); rwa [Nat.add_mul, Nat.one_mul, Nat.add_comm (i * k), ← Nat.add_assoc] at this) (fun b hb => hk b (by simp [hb]))
    simp only [flat, List.map_cons, List.flatten_cons] at ih' ⊢
    rw [← ih', ← h0]
    simp only [seg, Nat.zero_mul, Nat.add_zero, List.length_cons]
    rw [Nat.add_mul, Nat.one_mul, Nat.add_comm (l.length * k), List.take_add, List.drop_drop]
/-- A slice that reads, as rows that can be read. -/
theorem Rds.rows {α : Type} {f : α → List Value} {Q : α → Prop} {cs : List Value} {k : Nat} (h : Rds enc P W t cs) (ht : P.underlying t = some (.slice e)) (hk : P.cellsOf e = k) (hk0 : 0 < k)
    (hf : ∀ row, row.length = k → Rds enc P W e row → ∃ a, f a = row ∧ Q a) :
    ∃ p len cap l, cs = [.slice p len cap] ∧ len ≤ cap ∧ cap ≤ maxLen ∧ l.length = len ∧ RdS [allX W] p (len * k) (flat f l) ∧ ∀ a ∈ l, Q a := by
  subst hk
  obtain ⟨p, len, cap, hcs, h1, h2, h3⟩ := h.slice ht hk0
  rcases h3 with rfl | ⟨b, off, arr, T, fz, rfl, harr, hrow⟩
  · exact ⟨p, 0, cap, [], hcs, h1, h2, rfl, ⟨by simp [flat], .inl (by simp)⟩, by simp⟩
  · obtain ⟨l, hl, hq⟩ := pick_list (Q := fun i a => f a = seg arr.toList (off + i * P.cellsOf e) (P.cellsOf e) ∧ Q a) len (fun i hi => hf _ (hrow i hi).1 (hrow i hi).2)
    have hlen : ∀ a ∈ l, (f a).length = P.cellsOf e := fun a ha => by
      obtain ⟨i, hi⟩ := List.getElem?_of_mem ha
      rw [(hq i a hi).1]
      exact (hrow i (by have := (List.getElem?_eq_some_iff.1 hi).1; omega)).1
    have hseg := seg_flat arr.toList off l (fun i a ha => ((hq i a ha).1).symm) hlen
    refine ⟨_, len, cap, l, hcs, h1, h2, hl, ⟨?_, .inr ⟨b, off, arr.toList, T, fz, rfl, ?_, by rw [← hl]; exact hseg⟩⟩, fun a ha => ?_⟩
    · rw [← hseg, hl]
      rcases Nat.eq_zero_or_pos len with h0 | h0
      · simp [seg, h0]
      · have hlast := (hrow (len - 1) (by omega)).1
        simp only [seg, List.length_take, List.length_drop] at hlast ⊢
        have e1 : len * P.cellsOf e = (len - 1) * P.cellsOf e + P.cellsOf e := by
          rw [← Nat.succ_mul]; congr 1; omega
        omega
    · exact look_all (W := W) memLHere (by simpa using harr)
    · obtain ⟨i, hi⟩ := List.getElem?_of_mem ha
      exact (hq i a hi).2
/-- Which types' rows hold plain cells alone. -/
def tiles (P : Program) : Nat → TypeId → Bool
  | 0, _ => false
  | k + 1, t => match P.underlying t with
    | some .bool | some (.int _) | some .string | some (.slice _) | some (.pointer _) => P.cellsOf t == 1
    | some (.array n e) => tiles P k e && P.cellsOf t == n * P.cellsOf e
    | some (.struct fs) => fs.toList.all (fun f => tiles P k f.type) && fs.toList.foldl (fun (o : Option Nat) f => o.bind fun o => if f.offset = o then some (o + P.cellsOf f.type) else none) (some 0) == some (P.cellsOf t)
    | _ => false
theorem tiles_struct (P : Program) (cs : List Value) : ∀ (fs : List Field) (o m : Nat), fs.foldl (fun (o : Option Nat) f => o.bind fun o => if f.offset = o then some (o + P.cellsOf f.type) else none) (some o) = some m →
    (∀ f ∈ fs, (seg cs f.offset (P.cellsOf f.type)).all (·.oneCell') = true) → (cs.take o).all (·.oneCell') = true → (cs.take m).all (·.oneCell') = true
  | [], o, m, h, _, h0 => by simp at h; subst h; exact h0
  | f :: fs, o, m, h, ha, h0 => by
    simp only [List.foldl_cons, Option.bind_some] at h
    split at h
    · rename_i ho
      refine tiles_struct P cs fs _ m h (fun g hg => ha g (by simp [hg])) ?_
      rw [List.take_add, List.all_append, h0, Bool.true_and, ← ho]
      exact ha f (by simp)
    · exfalso
      have : ∀ (fs : List Field), fs.foldl (fun (o : Option Nat) f => o.bind fun o => if f.offset = o then some (o + P.cellsOf f.type) else none) none = none := by
        intro fs; induction fs with
        | nil => rfl
        | cons g fs ih => simpa using ih
      rw [this] at h; cases h
theorem Rds.plain : ∀ (k : Nat) (t : TypeId) (cs : List Value), tiles P k t = true → Rds enc P W t cs → cs.length = P.cellsOf t ∧ cs.all (·.oneCell') = true
  | 0, _, _, h, _ => by cases h
  | k + 1, t, cs, h, hr => by
    unfold tiles at h
    split at h <;> rename_i ht
    · obtain ⟨b, rfl⟩ := hr.bool ht
      exact ⟨by simpa using (beq_iff_eq.1 h).symm, rfl⟩
    · obtain ⟨a, rfl, _⟩ := hr.int ht
      exact ⟨by simpa using (beq_iff_eq.1 h).symm, rfl⟩
    · obtain ⟨fuel, x, hx⟩ := hr
      cases fuel with
      | zero => cases hx
      | succ fuel =>
        unfold DataW.trod at hx
        rw [ht] at hx
        split at hx <;> simp_all [Value.oneCell']
    · obtain ⟨fuel, x, hx⟩ := hr
      cases fuel with
      | zero => cases hx
      | succ fuel =>
        unfold DataW.trod at hx
        rw [ht] at hx
        split at hx <;> simp_all [Value.oneCell']
    · obtain ⟨fuel, x, hx⟩ := hr
      cases fuel with
      | zero => cases hx
      | succ fuel =>
        unfold DataW.trod at hx
        rw [ht] at hx
        split at hx <;> simp_all [Value.oneCell']
    · simp only [Bool.and_eq_true, beq_iff_eq] at h
      obtain ⟨hl, hi⟩ := hr.array ht
      refine ⟨hl, List.all_eq_true.2 fun v hv => ?_⟩
      obtain ⟨j, hj⟩ := List.getElem?_of_mem hv
      have hjl := (List.getElem?_eq_some_iff.1 hj).1
      rename_i n e
      have hpos : 0 < P.cellsOf e := by
        rcases Nat.eq_zero_or_pos (P.cellsOf e) with h0 | h0
        · rw [h0, Nat.mul_zero] at h; omega
        · exact h0
      have hq : j / P.cellsOf e < n := by
        rw [Nat.div_lt_iff_lt_mul hpos]; omega
      have h1 := (Rds.plain k e _ h.1 (hi _ hq)).2
      refine List.all_eq_true.1 h1 v (List.mem_of_getElem? (i := j % P.cellsOf e) ?_)
      simp only [seg, List.getElem?_take, if_pos (Nat.mod_lt _ hpos), List.getElem?_drop]
      rw [Nat.mul_comm, Nat.div_add_mod]
      exact hj
    · simp only [Bool.and_eq_true, beq_iff_eq] at h
      obtain ⟨hl, hi⟩ := hr.struct ht
      refine ⟨hl, ?_⟩
      have := tiles_struct P cs _ 0 _ h.2 (fun f hf => (Rds.plain k f.type _ (List.all_eq_true.1 h.1 f hf) (hi f (by simpa using hf))).2) (by simp)
      rwa [← hl, List.take_length] at this
    · cases h
end rd
end Go.Eng
