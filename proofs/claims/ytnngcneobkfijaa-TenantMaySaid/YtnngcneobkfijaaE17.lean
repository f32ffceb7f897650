/- The engine, part 17: every operation goes as it is reckoned. -/
import Derived.Test.YtnngcneobkfijaaE16
set_option linter.unusedSimpArgs false
set_option linter.unusedVariables false
namespace Go.Eng
section
variable {P : Program} {w : World} {I : Nat → Prop} {ρ : Rho} {h : Heap} {n : Nat} {o : Oper} {f : Vw} {a : Act} {nid : Nat}

def EnvOk (P : Program) (E : Env) : Prop := ∀ k raw sp, E.spec k = some (raw, sp) → SpecOk P k sp

theorem OpGoes.gives {s : Sem Value} {out : Out} (hR : RelF n f ρ I a w) (hd : ∀ d, o.dst = some d → d < n) (hg : Gives P w I ρ s out) (hex : (execOp a.eval o).run P w = (do pure (Next.value (← s)) : Sem Next).run P w) : OpGoes P n o f ρ I a w nid out := by
  obtain ⟨v, V0, h1, rfl, h2⟩ := hg
  exact OpGoes.quiet hR hd (by rw [hex]; simp [Sem.run_bind, h1]) h2

theorem Rvs_map {val : Operand → V} (hval : ∀ x, Rv w I ρ (val x) (a.eval x)) : (xs : List Operand) → Rvs w I ρ (xs.map val) (xs.map a.eval)
  | [] => trivial
  | x :: xs => ⟨hval x, Rvs_map hval xs⟩
theorem Rvs_app : {xs ys : List V} → {us vs : List Value} → Rvs w I ρ xs us → Rvs w I ρ ys vs → Rvs w I ρ (xs ++ ys) (us ++ vs)
  | [], _, [], _, _, h => h
  | [], _, _ :: _, _, h, _ => h.elim
  | _ :: _, _, [], _, h, _ => h.elim
  | _ :: _, _, _ :: _, _, ⟨h1, h2⟩, h => ⟨h1, Rvs_app h2 h⟩
theorem Rvs_caps : {cs : List (Nat × Nat)} → {vs : List Value} → Rcaps ρ cs vs → Rvs w I ρ (cs.map fun x => .c (.ref x.1 x.2)) vs
  | [], [], _ => trivial
  | [], _ :: _, h => h.elim
  | _ :: _, [], h => h.elim
  | _ :: _, _ :: _, ⟨h1, h2⟩ => ⟨h1, Rvs_caps h2⟩

theorem caps_mapM {val : Operand → V} (hval : ∀ x, Rv w I ρ (val x) (a.eval x)) : (xs : List Operand) → {cs : List (Nat × Nat)} → (xs.mapM fun c => match val c with
      | .c (.ref id off) => some (id, off)
      | _ => none) = some cs → Rcaps ρ cs (xs.map a.eval)
  | [], cs, h => by simp at h; subst h; trivial
  | x :: xs, cs, h => by
    simp only [List.mapM_cons, Option.bind_eq_bind, Option.bind_eq_some_iff, Option.pure_def, Option.some.injEq] at h
    obtain ⟨p, h1, q, h2, rfl⟩ := h
    have hx := hval x
    split at h1
    · rename_i id off hv
      cases h1
      rw [hv] at hx
      exact ⟨hx, caps_mapM hval xs h2⟩
    · cases h1

theorem min2_run {k : IntKind} {x y : Int} : (Builtin.min2 (.int k x) (.int k y)).run P w = .ok (.int k (min2I x y)) w := by simp [Builtin.min2, min2I]
theorem max2_run {k : IntKind} {x y : Int} : (Builtin.max2 (.int k x) (.int k y)).run P w = .ok (.int k (max2I x y)) w := by simp [Builtin.max2, max2I]

theorem Rvo_map {val : Operand → V} (hval : ∀ x, Rv w I ρ (val x) (a.eval x)) (lo : Option Operand) : Rvo w I ρ (lo.map val) (lo.map a.eval) := by
  cases lo with
  | none => trivial
  | some x => exact hval x

theorem arr_two {val : Operand → V} {arr : Array Operand} {d s : V} (h : arr.toList.map val = [d, s]) : ∃ x y, arr = #[x, y] ∧ val x = d ∧ val y = s := by
  obtain ⟨l⟩ := arr
  rcases l with _ | ⟨x, _ | ⟨y, _ | ⟨_, _⟩⟩⟩ <;> simp at h
  exact ⟨x, y, rfl, h.1, h.2⟩
theorem arr_one {val : Operand → V} {arr : Array Operand} {d : V} (h : arr.toList.map val = [d]) : ∃ x, arr = #[x] ∧ val x = d := by
  obtain ⟨l⟩ := arr
  rcases l with _ | ⟨x, _ | ⟨_, _⟩⟩ <;> simp at h
  exact ⟨x, rfl, h⟩

theorem appendO_new {ts : List TypeId} {x y : V} {out : Out} (he : (appendO P h nid ts x y).run = some out) : out.new.length = 1 := by
  unfold appendO at he
  repeat' split at he
  all_goals first
    | exact (fail_run he).elim
    | (obtain ⟨_, he⟩ := node_fail he; cases leaf_run he; rfl)
theorem buildSliceO_new {t : TypeId} {len : Nat} {ps : List (Nat × V)} {out : Out} (he : (buildSliceO P h nid t len ps).run = some out) : out.new.length = 1 := by
  unfold buildSliceO at he
  repeat' split at he
  all_goals first
    | exact (fail_run he).elim
    | (cases leaf_run he; rfl)
theorem makeSliceO_new {t : TypeId} {x y : V} {out : Out} (he : (makeSliceO P nid t x y).run = some out) : out.new.length = 1 := by
  unfold makeSliceO at he
  repeat' split at he
  all_goals first
    | exact (fail_run he).elim
    | (obtain ⟨_, he⟩ := test_fail he; cases leaf_run he; rfl)

theorem builtinO_goes (hR : RelF n f ρ I a w) (hm : ∀ id o, h.at? id = some o → f.ob id = some o) (hd : ∀ d, o.dst = some d → d < n) {val : Operand → V} (hval : ∀ x, Rv w I ρ (val x) (a.eval x)) {c : Call} {b : Builtin}
    (hop : o.op = .call c) (hc : c.callee = .builtin b) {out : Out} (he : (builtinO P h nid b c.argTypes.toList (c.args.toList.map val)).run = some out) (hn : ∀ i, nid ≤ i → i < nid + out.new.length → ρ i = none) : OpGoes P n o f ρ I a w nid out := by
  obtain ⟨consts, hex⟩ := exec_builtin (P := P) (w := w) (a := a) hop hc
  have hvs := Rvs_map hval c.args.toList
  have hargs : (c.args.map a.eval).toList = c.args.toList.map a.eval := by simp
  unfold builtinO at he
  split at he
  · rename_i d s hds
    have := arr_two hds
    obtain ⟨xd, xs, h1, rfl, rfl⟩ := this
    exact appendO_goes hR hm hd (hn nid (Nat.le_refl _) (by rw [appendO_new he]; omega)) (hval xd) (hval xs) hop hc h1 he
  · rename_i t ts x hts hds
    have := arr_one hds
    obtain ⟨y, h1, rfl⟩ := this
    have hat : c.argTypes = (t :: ts).toArray := by
      apply Array.ext'
      simpa using hts
    refine OpGoes.gives hR hd (lenO_ok (ty := o.type) (ts := ts) hR.heap hm (hval y) he) ?_
    rw [hex, h1, hat]
    simp only [builtin, List.map_toArray, List.map_cons, List.map_nil]
  · rename_i x r hds
    have : ∃ y l, c.args.toList = y :: l ∧ val y = x ∧ l.map val = r := by
      cases hl : c.args.toList with
      | nil => rw [hl] at hds; simp at hds
      | cons y l => rw [hl] at hds; simp at hds; exact ⟨y, l, rfl, hds.1, hds.2⟩
    obtain ⟨y, l, h1, rfl, rfl⟩ := this
    refine OpGoes.gives hR hd (fold2_ok (g := Builtin.min2) (fun _ _ _ => min2_run) (val y) (l.map val) (a.eval y) (l.map a.eval) (hval y) (Rvs_map hval l) he) ?_
    rw [hex]
    have : (c.args.map a.eval).toList = a.eval y :: l.map a.eval := by rw [hargs, h1]; rfl
    simp only [builtin, Builtin.min_, this]
  · rename_i x r hds
    have : ∃ y l, c.args.toList = y :: l ∧ val y = x ∧ l.map val = r := by
      cases hl : c.args.toList with
      | nil => rw [hl] at hds; simp at hds
      | cons y l => rw [hl] at hds; simp at hds; exact ⟨y, l, rfl, hds.1, hds.2⟩
    obtain ⟨y, l, h1, rfl, rfl⟩ := this
    refine OpGoes.gives hR hd (fold2_ok (g := Builtin.max2) (fun _ _ _ => max2_run) (val y) (l.map val) (a.eval y) (l.map a.eval) (hval y) (Rvs_map hval l) he) ?_
    rw [hex]
    have : (c.args.map a.eval).toList = a.eval y :: l.map a.eval := by rw [hargs, h1]; rfl
    simp only [builtin, Builtin.max_, this]
  · exact delete_goes hR hm hd (by rw [hargs]; exact hvs) hop hc he
  · exact (fail_run he).elim

theorem callV_goes (hR : RelF n f ρ I a w) (hm : ∀ id o, h.at? id = some o → f.ob id = some o) (hd : ∀ d, o.dst = some d → d < n) {val : Operand → V} (hval : ∀ x, Rv w I ρ (val x) (a.eval x)) {E : Env} (hE : EnvOk P E) {c : Call} {x : Operand}
    (hop : o.op = .call c) (hc : c.callee = .value x) {out : Out} (he : (callV h nid E (val x) (c.args.toList.map val)).run = some out) (hn : ∀ i, nid ≤ i → i < nid + out.new.length → ρ i = none) : OpGoes P n o f ρ I a w nid out := by
  unfold callV at he
  split at he
  · rename_i k caps hx
    split at he
    · rename_i raw sp hsp
      have hv := hval x
      rw [hx] at hv
      obtain ⟨vs, h1, h2⟩ := hv
      refine callO_goes (vals := c.args.map a.eval ++ vs) hR hm hd ?_ (hE k raw sp hsp) he hn ?_
      · rw [Array.toList_append]
        exact Rvs_app (by simpa using Rvs_map hval c.args.toList) (Rvs_caps h2)
      · simp only [execOp, hop, resolve, hc, h1, Deferred.ofValue, Sem.run_bind, Sem.run_pure, Result.andThen_ok, invoke]
        simp
    · exact (fail_run he).elim
  · exact (fail_run he).elim

theorem evOp_goes (hR : RelF n f ρ I a w) (hm : ∀ id o, h.at? id = some o → f.ob id = some o) (hd : ∀ d, o.dst = some d → d < n) {val : Operand → V} (hval : ∀ x, Rv w I ρ (val x) (a.eval x)) {E : Env} (hE : EnvOk P E)
    {out : Out} (he : (evOp P E val h nid o.op).run = some out) (hn : ∀ i, nid ≤ i → i < nid + out.new.length → ρ i = none) : OpGoes P n o f ρ I a w nid out := by
  have hn0 : out.new.length = 1 → ρ nid = none := fun h1 => hn nid (Nat.le_refl _) (by omega)
  cases hop : o.op <;> rw [hop] at he <;> simp only [evOp] at he
  case move x => cases leaf_run he; exact OpGoes.quiet hR hd (by simp [execOp, hop]) (hval x)
  case assign x => cases leaf_run he; exact OpGoes.quiet hR hd (by simp [execOp, hop]) (hval x)
  case pick c x y =>
    have hc := hval c
    split at he
    · rename_i cc hcc
      rw [hcc] at hc
      split at he
      · rename_i b k hb
        have hcb := asB_ok hc hb
        rw [test_run] at he
        cases b with
        | true => cases leaf_run he; exact OpGoes.quiet hR hd (cv := a.eval x) (by simp [execOp, hop, hcb, asBool]) (hval x)
        | false => cases leaf_run he; exact OpGoes.quiet hR hd (cv := a.eval y) (by simp [execOp, hop, hcb, asBool]) (hval y)
      · exact (fail_run he).elim
    · exact (fail_run he).elim
  case alloc t =>
    split at he
    · rename_i z hz
      split at he
      · cases leaf_run he; exact alloc_goes hR hd (hn0 rfl) hop hz
      · exact (fail_run he).elim
    · exact (fail_run he).elim
  case box t x =>
    split at he
    · rename_i hs; cases leaf_run he; exact mkbox_goes hR hd (hn0 rfl) hop (hval x) hs
    · exact (fail_run he).elim
  case build t ps => exact OpGoes.gives hR hd (buildO_ok hval he) (by simp only [execOp, hop])
  case buildSlice t len ps => exact buildSlice_goes hR hm hd (hn0 (buildSliceO_new he)) hval hop he
  case load t x => exact OpGoes.gives hR hd (loadO_ok hR.heap hm (hval x) he) (by simp only [execOp, hop])
  case store t x y => exact storeBox_goes hR hm hd (hval x) (hval y) hop he
  case nilCheck x =>
    have hx := hval x
    have key : ∀ {cv}, a.eval x = cv → (∃ ad, cv = .pointer (some ad)) ∨ (∃ k fs vs, cv = .func (.func k) fs vs) → (execOp a.eval o).run P w = .ok (.value cv) w := by
      rintro cv e (⟨ad, rfl⟩ | ⟨k, fs, vs, rfl⟩) <;> simp [execOp, hop, e]
    split at he
    · rename_i i off hv
      rw [hv] at hx; cases pureO_run he
      have hx' := hx
      obtain ⟨z, _, _, h3⟩ := hx'
      exact OpGoes.quiet hR hd (key rfl (.inl ⟨_, h3⟩)) hx
    · rename_i i e j hv
      rw [hv] at hx; cases pureO_run he
      have hx' := hx
      obtain ⟨z, _, _, h3⟩ := hx'
      exact OpGoes.quiet hR hd (key rfl (.inl ⟨_, h3⟩)) hx
    · rename_i cs l e j hv
      rw [hv] at hx; cases pureO_run he
      have hx' := hx
      obtain ⟨b, off, h3, _⟩ := hx'
      exact OpGoes.quiet hR hd (key rfl (.inl ⟨_, h3⟩)) hx
    · rename_i k c hv
      rw [hv] at hx; cases pureO_run he
      have hx' := hx
      obtain ⟨vs, h3, _⟩ := hx'
      exact OpGoes.quiet hR hd (key rfl (.inr ⟨_, _, _, h3⟩)) hx
    · exact (fail_run he).elim
  case binOp op t x y oo => exact OpGoes.gives hR hd (binO_ok (hval x) (hval y) he x y) (by simp only [execOp, hop])
  case unOp op t x => exact OpGoes.gives hR hd (unO_ok (hval x) he) (by simp only [execOp, hop])
  case convert s d x => exact OpGoes.gives hR hd (convertO_ok hR.heap hm (hval x) he) (by simp only [execOp, hop])
  case makeFunc fn first caps =>
    split at he
    · rename_i k
      split at he
      · rename_i hfirst
        split at he
        · rename_i cs hcs
          cases pureO_run he
          have hf : first = #[] := by simpa using hfirst
          refine OpGoes.quiet hR hd (cv := .func (.func k) #[] (caps.map a.eval)) ?_ ⟨_, rfl, ?_⟩
          · simp [execOp, hop, hf, Instr.makeFunc]
          · have := caps_mapM hval caps.toList hcs
            simpa using this
        · exact (fail_run he).elim
      · exact (fail_run he).elim
    · exact (fail_run he).elim
  case makeMap t r =>
    split at he
    · rename_i e hk
      split at he
      · rename_i cs hcs
        cases leaf_run he
        exact makeMap_goes hR hd (hn0 rfl) hop _ _
      · exact (fail_run he).elim
    · exact (fail_run he).elim
  case makeSlice t l c => exact makeSlice_goes hR hm hd (hn0 (makeSliceO_new he)) (hval l) (hval c) hop he
  case slice t x lo hi mx =>
    split at he
    · exact OpGoes.gives hR hd (sliceO_ok hR.heap hm (Rvo_map hval _) (Rvo_map hval _) (hval x) he) (by simp only [execOp, hop]; rfl)
    · exact (fail_run he).elim
  case fieldAddr s x i => exact OpGoes.gives hR hd (fieldAddrO_ok (hval x) he) (by simp only [execOp, hop])
  case field t x i => exact OpGoes.gives hR hd (fieldO_ok (hval x) he) (by simp only [execOp, hop])
  case indexAddr t x i => exact OpGoes.gives hR hd (indexAddrO_ok hR.heap hm (hval x) (hval i) he) (by simp only [execOp, hop])
  case index t x i => exact OpGoes.gives hR hd (indexO_ok (hval x) (hval i) he) (by simp only [execOp, hop])
  case lookup t x k ok => exact OpGoes.gives hR hd (lookupO_ok hR.heap hm (hval x) (hval k) he) (by simp only [execOp, hop])
  case mapUpdate t m k x => exact mapUpdate_goes hR hm hd (hval m) (hval k) (hval x) hop he
  case extract x i =>
    have hx := hval x
    split at he
    · rename_i vs hv
      rw [hv] at hx
      obtain ⟨us, h1, h2⟩ := hx
      split at he
      · rename_i W0 hw
        cases leaf_run he
        have : ∀ (vs : List W) (us : List Value) (i : Nat), Rws w I ρ vs us → vs[i]? = some W0 → ∃ u, us[i]? = some u ∧ Rw w I ρ W0 u := by
          intro vs
          induction vs with
          | nil => intro us i _ h; simp at h
          | cons v vs ih =>
            intro us i hr hi
            cases us with
            | nil => exact hr.elim
            | cons u us =>
              cases i with
              | zero => simp at hi; subst hi; exact ⟨u, rfl, hr.1⟩
              | succ i => simp at hi; simpa using ih us i hr.2 hi
        obtain ⟨u, h3, h4⟩ := this vs us.toList i h2 hw
        have h3' : us[i]? = some u := by simpa using h3
        exact OpGoes.quiet hR hd (cv := u) (by simp [execOp, hop, h1, Instr.extract, h3']) (W.toV_rel h4)
      · exact (fail_run he).elim
    · exact (fail_run he).elim
  case call c =>
    split at he
    · rename_i x hc
      exact callV_goes hR hm hd hval hE hop hc he hn
    · rename_i b hc
      exact builtinO_goes hR hm hd hval hop hc he hn
    · exact (fail_run he).elim
  all_goals exact (fail_run he).elim
end
end Go.Eng
