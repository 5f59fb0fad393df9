/- The pure operations' soundness, one by one. -/
import Derived.Test.YtdodnhbegabbpaaV4
namespace Go.Vm

section
variable {P : Program} {ρ : Operand → Value} {G : Gh} {w : World} {ev : VO → AV} {d : Nat}

theorem exec_of (o : Oper) {m : Sem Value} {v : Value} (he : execOp ρ o = (do let x ← m; pure (Next.value x))) (hm : m.run P w = .ok v w) :
    (execOp ρ o).run P w = .ok (.value v) w := by
  rw [he]; simp [hm]

theorem pure_move {o : Oper} {x : Operand} {y : VO} (ho : o.op = .move x) (hx : trO x = some y) (he : OkEv G w ev ρ) : Yields P ρ o G w d (ev y).view :=
  .same (v := ρ x) (by simp [execOp, ho]) (he _ _ hx).view (notOwn_view _)

theorem pure_pick {o : Oper} {c a b : Operand} {c' a' b' : VO} {r : AV} (ho : o.op = .pick c a b) (hc : trO c = some c') (ha : trO a = some a') (hb : trO b = some b')
    (hp : pval ev (.pick c' a' b') = some r) (he : OkEv G w ev ρ) : Yields P ρ o G w d r := by
  simp only [pval] at hp
  have hc := he _ _ hc
  split at hp
  · rename_i hcv
    rw [hcv] at hc
    have := hc.bool_inv
    simp only [Option.some.injEq] at hp; subst hp
    exact .same (v := ρ a) (by simp [execOp, ho, this, asBool]) (he _ _ ha).view (notOwn_view _)
  · rename_i hcv
    rw [hcv] at hc
    have := hc.bool_inv
    simp only [Option.some.injEq] at hp; subst hp
    exact .same (v := ρ b) (by simp [execOp, ho, this, asBool]) (he _ _ hb).view (notOwn_view _)
  · simp at hp

theorem pure_nilck {o : Oper} {x : Operand} {x' : VO} {r : AV} (ho : o.op = .nilCheck x) (hx : trO x = some x')
    (hp : pval ev (.nilck x') = some r) (he : OkEv G w ev ρ) : Yields P ρ o G w d r := by
  simp only [pval] at hp
  have hx := he _ _ hx
  split at hp
  · rename_i hv
    rw [hv] at hx
    obtain ⟨b, hb, e⟩ := hx.ptr_inv
    simp only [Option.some.injEq] at hp; subst hp
    exact .same (v := ρ x) (by simp [execOp, ho, e]) hx trivial
  · rename_i hv
    rw [hv] at hx
    obtain ⟨b, o', vals, e, _⟩ := hx.vptr_inv
    simp only [Option.some.injEq] at hp; subst hp
    exact .same (v := ρ x) (by simp [execOp, ho, e]) hx trivial
  · rename_i f cs hv
    rw [hv] at hx
    obtain ⟨vs, e, hl, h⟩ := hx.fn_inv
    simp only [Option.some.injEq] at hp; subst hp
    refine .same (v := ρ x) ?_ hx trivial
    cases f <;> simp [execOp, ho, e]
  · simp at hp

theorem pure_un {o : Oper} {op : UnOp} {t : TypeId} {x : Operand} {x' : VO} {r : AV} (ho : o.op = .unOp op t x) (hx : trO x = some x')
    (hp : pval ev (.un op x') = some r) (he : OkEv G w ev ρ) : Yields P ρ o G w d r := by
  simp only [pval, un?] at hp
  have hx := he _ _ hx
  split at hp
  · rename_i hv
    rw [hv] at hx
    have e := hx.int_inv
    simp only [Option.some.injEq] at hp; subst hp
    refine .same (v := .int _ _) ?_ (.of (.int _ _)) trivial
    simp [execOp, ho, e, Op.unary, Op.intArith]
  · rename_i hv
    rw [hv] at hx
    have e := hx.int_inv
    simp only [Option.some.injEq] at hp; subst hp
    refine .same (v := .int _ _) ?_ (.of (.int _ _)) trivial
    simp [execOp, ho, e, Op.unary, Op.intBits]
  · rename_i hv
    rw [hv] at hx
    have e := hx.bool_inv
    simp only [Option.some.injEq] at hp; subst hp
    refine .same (v := .bool _) ?_ (.of (.bool _)) trivial
    simp [execOp, ho, e, Op.unary]
  · simp at hp


theorem equal_slice_nil (t e : TypeId) (a : Option Addr) (l c : Nat) (h : P.underlying t = some (.slice e)) : (Op.equal t (.slice a l c) (.slice none 0 0)).run P w = .ok a.isNone w := by
  have key : ∀ d, (Op.equalIn (d + 1) t (.slice a l c) (.slice none 0 0)).run P w = .ok a.isNone w := fun d => by cases a <;> simp [Op.equalIn, run_underlying h]
  exact key 9999

theorem equal_pointer_nil (t e : TypeId) (a : Option Addr) (h : P.underlying t = some (.pointer e)) : (Op.equal t (.pointer a) (.pointer none)).run P w = .ok a.isNone w := by
  have key : ∀ d, (Op.equalIn (d + 1) t (.pointer a) (.pointer none)).run P w = .ok a.isNone w := fun d => by cases a <;> simp [Op.equalIn, run_underlying h]
  exact key 9999

theorem equal_func_nil (t : TypeId) (p r : Array TypeId) (b : Bool) (v : Value) (q : Bool) (h : P.underlying t = some (.func p r b)) (hv : (v = .nilFunc ∧ q = true) ∨ (∃ f a c, v = .func f a c) ∧ q = false) :
    (Op.equal t v .nilFunc).run P w = .ok q w := by
  have key : ∀ d, (Op.equalIn (d + 1) t v .nilFunc).run P w = .ok q w := fun d => by rcases hv with ⟨rfl, rfl⟩ | ⟨⟨f, a, c, rfl⟩, rfl⟩ <;> simp [Op.equalIn, run_underlying h]
  exact key 9999

theorem nil_slice {x : AV} {u : Value} {b : Bool} (hx : RepT G w x u) (hn : isNil? 0 x = some b) : ∃ a l c, u = .slice a l c ∧ a.isNone = b := by
  cases x <;> simp [isNil?] at hn
  · rcases hx.vec_inv with ⟨h1, _, rfl⟩ | ⟨bb, off, cap, st, vals, h1, rfl, _⟩ <;> subst h1 <;> exact ⟨_, _, _, rfl, by simpa using hn⟩
  · obtain ⟨bb, cap, _, rfl, _⟩ := hx.row_inv
    exact ⟨_, _, _, rfl, by simpa using hn⟩

theorem nil_pointer {x : AV} {u : Value} {b : Bool} (hx : RepT G w x u) (hn : isNil? 1 x = some b) : ∃ a, u = .pointer a ∧ a.isNone = b := by
  cases x <;> simp [isNil?] at hn
  · obtain ⟨bb, _, rfl⟩ := hx.ptr_inv
    exact ⟨_, rfl, by simpa using hn⟩
  · obtain ⟨bb, o, vals, rfl, _⟩ := hx.vptr_inv
    exact ⟨_, rfl, by simpa using hn⟩
  · have := hx.nilptr_inv
    exact ⟨_, this, by simpa using hn⟩

theorem nil_func {x : AV} {u : Value} {b : Bool} (hx : RepT G w x u) (hn : isNil? 2 x = some b) : (u = .nilFunc ∧ b = true) ∨ (∃ f a c, u = .func f a c) ∧ b = false := by
  cases x <;> simp [isNil?] at hn
  · obtain ⟨vs, rfl, _⟩ := hx.fn_inv
    exact .inr ⟨⟨_, _, _, rfl⟩, hn.symm ▸ rfl⟩
  · cases hx with | of h => cases h; exact .inl ⟨rfl, hn.symm ▸ rfl⟩

theorem isNilConst_inv {k : Nat} {y : Operand} (hy : isNilConst k y = true) : (k = 0 ∧ y = .const (.slice none 0 0)) ∨ (k = 1 ∧ y = .const (.pointer none)) ∨ (k = 2 ∧ y = .const .nilFunc) := by
  unfold isNilConst at hy
  split at hy
  · exact .inl ⟨rfl, rfl⟩
  · exact .inr (.inl ⟨rfl, rfl⟩)
  · exact .inr (.inr ⟨rfl, rfl⟩)
  · simp at hy

/-- The operands of the model's operations evaluate constants to themselves. -/
def EvConst (ρ : Operand → Value) : Prop := ∀ v, ρ (.const v) = v

theorem pure_nil {o : Oper} {op : BinOp} {t yt : TypeId} {x y : Operand} {x' : VO} {k : Nat} {vop : VOp} {r : AV} (ho : o.op = .binOp op t x y yt) (hx : trO x = some x')
    (ht : (k = 0 ∧ ∃ e, P.underlying t = some (.slice e)) ∨ (k = 1 ∧ ∃ e, P.underlying t = some (.pointer e)) ∨ (k = 2 ∧ ∃ p r v, P.underlying t = some (.func p r v)))
    (hv : trNil k op x' y = some vop) (hp : pval ev vop = some r) (he : OkEv G w ev ρ) (hc : EvConst ρ) : Yields P ρ o G w d r := by
  unfold trNil at hv
  split at hv
  · rename_i hy
    have hx := he _ _ hx
    have key : ∀ b, isNil? k (ev x') = some b → (Op.equal t (ρ x) (ρ y)).run P w = .ok b w ∧ (∀ x' y', eqGuard op t x' y' (ρ x) (ρ y) = pure ()) ∧
        (binOp .eql t (ρ x) (ρ y) = do pure (.bool (← Op.equal t (ρ x) (ρ y)))) ∧ (binOp .neq t (ρ x) (ρ y) = do pure (.bool (!(← Op.equal t (ρ x) (ρ y))))) := by
      intro b hn
      rcases ht with ⟨rfl, e, ht⟩ | ⟨rfl, e, ht⟩ | ⟨rfl, p, rr, v, ht⟩
      · rcases isNilConst_inv hy with ⟨_, rfl⟩ | ⟨h, _⟩ | ⟨h, _⟩ <;> try (simp at h; done)
        obtain ⟨a, l, c, e1, rfl⟩ := nil_slice hx hn
        rw [e1, hc]
        exact ⟨equal_slice_nil t e a l c ht, fun _ _ => by cases op <;> rfl, by simp [binOp], by simp [binOp]⟩
      · rcases isNilConst_inv hy with ⟨h, _⟩ | ⟨_, rfl⟩ | ⟨h, _⟩ <;> try (simp at h; done)
        obtain ⟨a, e1, rfl⟩ := nil_pointer hx hn
        rw [e1, hc]
        exact ⟨equal_pointer_nil t e a ht, fun _ _ => by cases op <;> rfl, by cases a <;> simp [binOp], by cases a <;> simp [binOp]⟩
      · rcases isNilConst_inv hy with ⟨h, _⟩ | ⟨h, _⟩ | ⟨_, rfl⟩ <;> try (simp at h; done)
        have e1 := nil_func hx hn
        rw [hc]
        refine ⟨equal_func_nil t p rr v _ b ht e1, fun _ _ => ?_, ?_, ?_⟩
        · rcases e1 with ⟨e1, _⟩ | ⟨⟨f, a, c, e1⟩, _⟩ <;> rw [e1] <;> cases op <;> rfl
        · rcases e1 with ⟨e1, _⟩ | ⟨⟨f, a, c, e1⟩, _⟩ <;> rw [e1] <;> simp [binOp]
        · rcases e1 with ⟨e1, _⟩ | ⟨⟨f, a, c, e1⟩, _⟩ <;> rw [e1] <;> simp [binOp]
    cases op <;> simp only [Option.some.injEq, reduceCtorEq] at hv
    all_goals
      subst hv
      simp only [pval] at hp
      split at hp
      · rename_i b hb
        simp only [Option.some.injEq] at hp; subst hp
        obtain ⟨k1, k2, k3, k4⟩ := key b hb
        refine .same (v := .bool _) ?_ (.of (.bool _)) trivial
        first
          | (simp [execOp, ho, k2, k3, k1]; done)
          | (simp [execOp, ho, k2, k4, k1]; done)
      · simp at hp
  · simp at hv

theorem pure_bin {o : Oper} {op : BinOp} {t yt : TypeId} {x y : Operand} {vop : VOp} {r : AV} (ho : o.op = .binOp op t x y yt)
    (hv : trBin P op t x y = some vop) (hp : pval ev vop = some r) (he : OkEv G w ev ρ) (hc : EvConst ρ) : Yields P ρ o G w d r := by
  have plain : ∀ x' y', trO x = some x' → trO y = some y' → bin? op (ev x') (ev y') = some r → Yields P ρ o G w d r := by
    intro x' y' hx hy hb
    obtain ⟨v, h1, h2, h3, h4⟩ := bin_run (P := P) (t := t) (he _ _ hx) (he _ _ hy) hb
    refine .same (v := v) ?_ h2 h3
    have hg := eqGuard_nothing op t x y (ρ x) (ρ y) h4
    simp [execOp, ho, hg, h1]
  unfold trBin at hv
  split at hv
  · rename_i hx hy
    simp only [Option.some.injEq] at hv; subst hv
    exact plain _ _ hx hy (by simpa [pval] using hp)
  · rename_i hx hy
    simp only [Option.some.injEq] at hv; subst hv
    exact plain _ _ hx hy (by simpa [pval] using hp)
  · rename_i x' y' hu hx hy
    have hx := he _ _ hx
    have hy := he _ _ hy
    cases op <;> simp only [Option.some.injEq, reduceCtorEq] at hv
    all_goals
      subst hv
      simp only [pval] at hp
      split at hp
      · rename_i a b ea eb
        rw [ea] at hx; rw [eb] at hy
        have e1 := hx.bool_inv; have e2 := hy.bool_inv
        simp only [Option.some.injEq] at hp; subst hp
        refine .same (v := .bool _) ?_ (.of (.bool _)) trivial
        first
          | (simp [execOp, ho, e1, e2, eqGuard_at_bool, run_eql_bool _ _ _ _ hu]; done)
          | (simp [execOp, ho, e1, e2, eqGuard_at_bool, run_neq_bool _ _ _ _ hu]; done)
      · simp at hp
  · rename_i fs x' y' hu hx hy
    have hx := he _ _ hx
    have hy := he _ _ hy
    split at hv
    · rename_i ss hss
      split at hv
      · rename_i hh
        have hf : P.fieldsOf t = fs := by simp [Program.fieldsOf, hu]
        cases op <;> simp only [Option.some.injEq, reduceCtorEq] at hv
        all_goals
          subst hv
          simp only [pval] at hp
          split at hp
          · rename_i xs ys ea eb
            rw [ea] at hx; rw [eb] at hy
            obtain ⟨us, e1, l1, r1⟩ := hx.agg_inv
            obtain ⟨vs, e2, l2, r2⟩ := hy.agg_inv
            split at hp
            · rename_i b hb
              simp only [Option.some.injEq] at hp; subst hp
              refine .same (v := .bool _) ?_ (.of (.bool _)) trivial
              have h1 := eqCells_run (P := P) 9998 l1 l2 r1 r2 fs.toList ss b hss hb
              have h2 := run_equalIn_agg w 9999 t us vs (hf ▸ hu) hh.1
              rw [hf, h1] at h2
              first
                | (simp [execOp, ho, e1, e2, run_eqGuard_agg w _ _ _ _ _ _ hh.2, run_eql_struct, h2]; done)
                | (simp [execOp, ho, e1, e2, run_eqGuard_agg w _ _ _ _ _ _ hh.2, run_neq_struct, h2]; done)
            · simp at hp
          · simp at hp
      · simp at hv
    · simp at hv
  · rename_i hu hx
    exact pure_nil (k := 0) ho hx (.inl ⟨rfl, _, hu⟩) hv hp he hc
  · rename_i hu hx
    exact pure_nil (k := 1) ho hx (.inr (.inl ⟨rfl, _, hu⟩)) hv hp he hc
  · rename_i hu hx
    exact pure_nil (k := 2) ho hx (.inr (.inr ⟨rfl, _, _, _, hu⟩)) hv hp he hc
  · simp at hv

end
end Go.Vm
