/- The engine, tenth part: structs of scalars compared; contracts between other groups. No premise; lemmas only. -/
import Derived.Test.YtkkeeoaencfemaaEngi
import Derived.Laws.StructEq
namespace Go.Eng
variable {P : Program} {c : World} {n : Nat} {D : List Deferred} {σ : List (Nat × Value)} {G : List Fr}
variable {ty : TypeId} {pos : String} {af : Array Edge} {gd : Option (Nat × Bool)} {x y z : Operand} {t u e : TypeId} {d : Option Tmp} {Q : Exit → Act → World → Prop} {K : Act → World → Prop}
/-- A scalar field's kind: 0 an integer, 1 a bool, 2 a string. -/
def scalOf : Option TypeDesc → Option Nat
  | some (.int _) => some 0
  | some .bool => some 1
  | some .string => some 2
  | _ => none
def scalL (P : Program) : List Field → Option (List (Nat × Nat))
  | [] => some []
  | f :: r => if f.name ≠ "_" then match scalOf (P.underlying f.type), scalL P r with
    | some k, some l => some ((f.offset, k) :: l)
    | _, _ => none
    else none
class ScalI (P : Program) (t : TypeId) (l : outParam (List (Nat × Nat))) : Prop where
  ok : ∃ fs, P.underlying t = some (.struct fs) ∧ scalL P fs.toList = some l ∧ P.stoodInHeld t = false ∧ P.eqGuardType P.depth t = false
theorem ScalI.of {l : List (Nat × Nat)} (h : (P.underlying t).bind (fun d => match d with | .struct fs => if P.stoodInHeld t || P.eqGuardType P.depth t then none else scalL P fs.toList | _ => none) = some l) : ScalI P t l := by
  constructor
  cases hd : P.underlying t with
  | none => simp [hd] at h
  | some d =>
    cases d <;> simp [hd] at h
    rename_i fs
    exact ⟨fs, rfl, h.2, h.1.1, h.1.2⟩
def eqV : Nat → Value → Value → Option Bool
  | 0, .int k a, .int k' b => if k = k' then some (decide (a = b)) else none
  | 1, .bool a, .bool b => some (a == b)
  | 2, .string a, .string b => some (a.toList == b.toList)
  | _, _, _ => none
def eqF : List (Nat × Nat) → List Value → List Value → Option Bool
  | [], _, _ => some true
  | (o, k) :: r, xs, ys => match xs[o]?, ys[o]? with
    | some a, some b => match eqV k a b, eqF r xs ys with
      | some e, some f => some (e && f)
      | _, _ => none
    | _, _ => none
theorem run_eqV {f : TypeId} {k : Nat} {a b : Value} {r : Bool} (hk : scalOf (P.underlying f) = some k) (h : eqV k a b = some r) (d : Nat) (w : World) : (Op.equalIn (d + 1) f a b).run P w = .ok r w := by
  unfold scalOf at hk
  split at hk <;> simp at hk <;> subst hk <;> unfold eqV at h <;> split at h <;> simp_all
  · obtain ⟨rfl, rfl⟩ := h
    rw [run_equalIn_int w d f _ _ _ _ (by assumption)]
    rfl
  · subst h; exact run_equalIn_bool' w d f _ _ (by assumption)
  · subst h; exact run_equalIn_string w d f _ _ (by assumption)
theorem run_part {f : TypeId} {k o : Nat} {xs : List Value} {a : Value} (hk : scalOf (P.underlying f) = some k) (h : xs[o]? = some a) (w : World) : (part f xs.toArray o).run P w = .ok a w := by
  have hag : (isAgg f).run P w = .ok false w := by
    unfold scalOf at hk
    unfold isAgg
    split at hk <;> simp at hk <;> (rw [Sem.run_bind, run_underlying (by assumption)]; rfl)
  simp [part, hag, h]
theorem run_eqF (d : Nat) (xs ys : List Value) : ∀ (fs : List Field) (l : List (Nat × Nat)) (r : Bool), scalL P fs = some l → eqF l xs ys = some r → ∀ w, (Op.eqFields (d + 1) xs.toArray ys.toArray fs).run P w = .ok r w
  | [], l, r, h, hr, w => by simp [scalL] at h; subst h; simp [eqF] at hr; subst hr; simp [Op.eqFields]
  | f :: fs, l, r, h, hr, w => by
    unfold scalL at h
    split at h
    · rename_i hname
      split at h
      · rename_i k l' hk hl'
        cases h
        unfold eqF at hr
        split at hr
        · rename_i a b ha hb
          split at hr
          · rename_i e g he hg
            cases hr
            have ih := run_eqF d xs ys fs l' g hl' hg
            simp only [Op.eqFields, hname, ne_eq, not_false_eq_true, if_true, Sem.run_bind, run_part hk ha, run_part hk hb, Result.andThen_ok, run_eqV hk he]
            cases e
            · simp
            · simp [ih]
          · cases hr
        · cases hr
      · cases h
    · cases h
theorem run_equal_scal {l : List (Nat × Nat)} [h : ScalI P t l] {xs ys : List Value} {r : Bool} (hr : eqF l xs ys = some r) (d : Nat) (w : World) : (Op.equalIn (d + 2) t (.agg xs.toArray) (.agg ys.toArray)).run P w = .ok r w := by
  obtain ⟨fs, hu, hl, hs, _⟩ := h.ok
  have hf : P.fieldsOf t = fs := by simp [Program.fieldsOf, hu]
  rw [run_equalIn_struct w (d + 1) t _ _ (by rw [hf]; exact hu) hs, hf]
  exact run_eqF d xs ys _ _ r hl hr w
theorem qf_eql_scal {l : List (Nat × Nat)} [h : ScalI P t l] {xs ys : List Value} {r : Bool} (hx : ev σ x = some (.agg xs.toArray)) (hy : ev σ y = some (.agg ys.toArray)) (hr : eqF l xs ys = some r) : QF P n D σ G ⟨d, .binOp .eql t x y u, ty, pos, af, gd⟩ (.bool r) := by
  intro _ ht w _
  have hg := h.ok.choose_spec.2.2.2
  simp [execOp, ht.ev hx, ht.ev hy, run_eqGuard_agg w _ t x y _ _ hg, run_eql_struct, run_equal_scal hr 9998 w]
theorem qf_neq_scal {l : List (Nat × Nat)} [h : ScalI P t l] {xs ys : List Value} {r : Bool} (hx : ev σ x = some (.agg xs.toArray)) (hy : ev σ y = some (.agg ys.toArray)) (hr : eqF l xs ys = some r) : QF P n D σ G ⟨d, .binOp .neq t x y u, ty, pos, af, gd⟩ (.bool !r) := by
  intro _ ht w _
  have hg := h.ok.choose_spec.2.2.2
  simp [execOp, ht.ev hx, ht.ev hy, run_eqGuard_agg w _ t x y _ _ hg, run_neq_struct, run_equal_scal hr 9998 w]

theorem Sep.front {c w : World} {A B : List Fr} : Sep c w (A ++ B) ↔ Sep c w (B ++ A) := ⟨fun h => h.perm List.perm_append_comm, fun h => h.perm List.perm_append_comm⟩
/-- The same contract between groups that are cut otherwise. -/
theorem Ct.conv {k : FuncId} {args : Array Value} {pre pre' : List Fr} {Φ Ψ : Value → List Fr → Prop} (h : Ct P k args pre Φ) (hp : pre'.flatten = pre.flatten) (hm : ∀ v post, Φ v post → ∃ post', Ψ v post' ∧ ∀ F, Ent (post ++ F) (post' ++ F)) : Ct P k args pre' Ψ := by
  intro c w F hs
  have hs' : Sep c w (pre ++ F) := by
    unfold Sep at *
    rw [List.flatten_append] at *
    rw [← hp]; exact hs
  refine (h c w F hs').mono ?_
  rintro e w' ⟨v, post, rfl, hΦ, hsep⟩
  obtain ⟨post', hΨ, hE⟩ := hm v post hΦ
  exact ⟨v, post', rfl, hΨ, hE F c w' hsep⟩
/-- A cut at a block: behind it only this is known. -/
theorem ht_block_cut {i : Nat} {x : Code} {α : Type} (ok : α → Prop) (σf : α → List (Nat × Value)) (Gf : α → List Fr)
    (h1 : HT c (CW P x (InB i (CutQ c n D ok σf Gf Q))) n D σ G) (h2 : ∀ y, ok y → HT c (EX Q .normal) n D (σf y) (Gf y)) : HT c (CW P (Code.block i x) Q) n D σ G :=
  ht_cut ok σf Gf (ht_block h1) h2
theorem Ct.conv' {k : FuncId} {args : Array Value} {pre pre' : List Fr} {Φ Ψ : Value → List Fr → Prop} (h : Ct P k args pre Φ) (hp : ∀ F, Ent (pre' ++ F) (pre ++ F)) (hm : ∀ v post, Φ v post → ∃ post', Ψ v post' ∧ ∀ F, Ent (post ++ F) (post' ++ F)) : Ct P k args pre' Ψ := by
  intro c w F hs
  refine (h c w F (hp F c w hs)).mono ?_
  rintro e w' ⟨v, post, rfl, hΦ, hsep⟩
  obtain ⟨post', hΨ, hE⟩ := hm v post hΦ
  exact ⟨v, post', rfl, hΨ, hE F c w' hsep⟩
end Go.Eng
