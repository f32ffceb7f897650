/- The engine, part 21: code, and a function's contract out of its reckoning. -/
import Derived.Test.YtnngcneobkfijaaE20J
set_option linter.unusedSimpArgs false
set_option linter.unusedVariables false
namespace Go.Eng
section
variable {P : Program} {w : World} {I : Nat → Prop} {ρ : Rho} {n : Nat} {a : Act}

def exitOf : Ex → Exit
  | .norm => .normal
  | .exit id => .exit id
  | .ret => .ret

/-- The code, from a state, ends so, in such a state. -/
def Goes (P : Program) (n base : Nat) (c : Code) (s : St) (r : Ex × St) : Prop :=
  ∀ (a : Act) (w : World) (ρ : Rho) (I : Nat → Prop), RelS n s ρ I a w → ∀ Q : Exit → Act → World → Prop,
    (∀ a' w' ρ' I', ExtB base s.hp.at? ρ I w r.2.hp.at? ρ' I' w' → RelS n r.2 ρ' I' a' w' → Q (exitOf r.1) a' w') → c.wp P Q a w

theorem Goes.weaken {base : Nat} {c : Code} {s s0 : St} {r : Ex × St} (h : Goes P n base c s0 r) (hhp : s0.hp = s.hp) (htm : ∀ w I ρ t v, Rv w I ρ (tget s.tm t) v → Rv w I ρ (tget s0.tm t) v) : Goes P n base c s r := by
  intro a w ρ I hR Q hQ
  refine h a w ρ I ⟨⟨?_, hR.rel.defers, hR.rel.size, fun t => htm _ _ _ _ _ (hR.rel.tm t)⟩, by rw [hhp]; exact hR.dom⟩ Q fun a' w' ρ' I' h1 h2 => hQ a' w' ρ' I' (by rw [hhp] at h1; exact h1) h2
  have := hR.rel.heap
  simp only [vw] at this ⊢
  rw [hhp]; exact this

def lpOk (X : Ctx) (n : Nat) : Code → Prop
  | .seq a b => lpOk X n a ∧ lpOk X n b
  | .cond _ a b => lpOk X n a ∧ lpOk X n b
  | .block id b => (∀ s t r, X.lp id s = some t → t.run = some r → Goes X.P n X.base (.block id b) s r) ∧ lpOk X n b
  | .loop b => lpOk X n b
  | _ => True

theorem lpOk_none {X : Ctx} (h : ∀ id s, X.lp id s = none) : (c : Code) → lpOk X n c
  | .seq a b => ⟨lpOk_none h a, lpOk_none h b⟩
  | .cond _ a b => ⟨lpOk_none h a, lpOk_none h b⟩
  | .block id b => ⟨fun s t r h1 => (by rw [h] at h1; cases h1), lpOk_none h b⟩
  | .loop b => lpOk_none h b
  | .skip | .region .. | .rangeFunc .. | .exit _ | .scope _ | .label _ | .goto _ | .ret | .refuse _ => trivial

theorem forceN_eq {α : Type} (n : Nat) (k : Nat → α) : forceN n k = k n := by cases n <;> rfl
theorem forceI_eq {α : Type} (n : Int) (k : Int → α) : forceI n k = k n := by cases n <;> simp [forceI, forceN_eq]
theorem forceC_eq {α : Type} (x : C) (k : C → α) : forceC x k = k x := by cases x <;> simp [forceC, forceN_eq, forceI_eq]
theorem forceL_eq {α β : Type} {f : β → (β → α) → α} (hf : ∀ x k, f x k = k x) : (l : List β) → (k : List β → α) → forceL f l k = k l
  | [], _ => rfl
  | x :: r, k => by
    have : forceL f (x :: r) k = f x fun x => forceL f r fun r => k (x :: r) := rfl
    rw [this, hf, forceL_eq hf r]
theorem forceV_eq {α : Type} (v : V) (k : V → α) : forceV v k = k v := by
  cases v <;> simp only [forceV, forceC_eq, forceL_eq forceC_eq]
theorem forceO_eq {α : Type} (o : Option Obj) (k : Option Obj → α) : forceO o k = k o := by
  unfold forceO
  split <;> simp only [forceL_eq forceC_eq]
theorem forceP_eq {α : Type} (p : Nat × V) (k : Nat × V → α) : forceP p k = k p := by simp only [forceP, forceN_eq, forceV_eq]
theorem forceSt_eq {α : Type} (s : St) (k : St → α) : forceSt s k = k s := by simp only [forceSt, forceL_eq forceP_eq, forceL_eq forceO_eq]

theorem least {p : Nat → Prop} (h : ∃ k, p k) : ∃ k, p k ∧ ∀ j, p j → k ≤ j := by
  obtain ⟨k, hk⟩ := h
  induction k using Nat.strongRecOn with
  | _ k ih =>
    by_cases hl : ∃ j, j < k ∧ p j
    · obtain ⟨j, h1, h2⟩ := hl; exact ih j h1 h2
    · exact ⟨k, hk, fun j hj => by
        rcases Nat.lt_or_ge j k with h | h
        · exact absurd ⟨j, h, hj⟩ hl
        · exact h⟩

theorem wp_loop_ind {c : Code} {Q : Exit → Act → World → Prop} (J : Nat → Act → World → Prop) (k : Nat) (h0 : J k a w) (round : ∀ k a w, J k a w → ∃ k', k = k' + 1 ∧ c.wp P (Exit.then (fun a' w' => J k' a' w') Q) a w) : (Code.loop c).wp P Q a w := by
  classical
  let μ : Act → World → Nat := fun a w => if h : ∃ k, J k a w then Classical.choose (least h) else 0
  have hμ : ∀ a w (h : ∃ k, J k a w), J (μ a w) a w ∧ ∀ j, J j a w → μ a w ≤ j := fun a w h => by
    simp only [μ, dif_pos h]
    exact Classical.choose_spec (least h)
  refine wp_loop (fun a w => ∃ k, J k a w) μ ⟨k, h0⟩ fun a w h => ?_
  obtain ⟨k', h1, h2⟩ := round _ a w (hμ a w h).1
  refine wp_mono h2 fun e a' w' hq => ?_
  cases e with
  | normal =>
    have hq : J k' a' w' := hq
    refine ⟨⟨k', hq⟩, ?_⟩
    have := (hμ a' w' ⟨k', hq⟩).2 k' hq
    omega
  | _ => exact hq

theorem evCode_ok {X : Ctx} (hmix : X.P.follows .mixedOrders = true) (hE : EnvOk X.P X.E) : (c : Code) → codeOk n c = true → lpOk X n c → (s : St) → (r : Ex × St) → (evCode X c s).run = some r → Goes X.P n X.base c s r
  | .skip, _, _, s, r, he => by
    cases leaf_run he
    exact fun a w ρ I hR Q hQ => wp_skip (hQ a w ρ I (ExtB.refl _ _ _ _ _) hR)
  | .exit id, _, _, s, r, he => by
    cases leaf_run he
    exact fun a w ρ I hR Q hQ => wp_exit (hQ a w ρ I (ExtB.refl _ _ _ _ _) hR)
  | .ret, _, _, s, r, he => by
    cases leaf_run he
    exact fun a w ρ I hR Q hQ => wp_ret (hQ a w ρ I (ExtB.refl _ _ _ _ _) hR)
  | .region id ops draw, hc, _, s, r, he => by
    obtain ⟨s', h1, h2⟩ := bind_run he
    rw [forceSt_eq] at h2
    cases leaf_run h2
    obtain ⟨s1, h0, h3⟩ := bind_run h1
    have hj : ∃ s0, (evRegion X.P X.E ops draw s).run = some s0 ∧ WkS (keepSt X.keep s0) s1 := by
      have plain : ∀ {s1 : St}, ((evRegion X.P X.E ops draw s).bind fun s' => Tree.leaf (keepSt X.keep s')).run = some s1 → ∃ s0, (evRegion X.P X.E ops draw s).run = some s0 ∧ s1 = keepSt X.keep s0 := fun h => by
        obtain ⟨s0, k1, k2⟩ := bind_run h
        exact ⟨s0, k1, leaf_run k2⟩
      cases hb : bitOf X.join id with
      | false =>
        rw [hb] at h0
        obtain ⟨s0, k1, rfl⟩ := plain h0
        exact ⟨s0, k1, WkS.refl _⟩
      | true =>
        rw [hb] at h0
        obtain ⟨s2, k1, k2⟩ := joined_ok (all_kept X.keep) h0
        obtain ⟨s0, k3, rfl⟩ := plain k1
        exact ⟨s0, k3, k2⟩
    obtain ⟨s0, h0, hw⟩ := hj
    intro a w ρ I hR Q hQ
    refine evRegion_ok hmix hE (fun o ho d hd => ?_) h0 hR fun a' w' ρ' I' q1 q2 => ?_
    rotate_left
    · obtain ⟨g1, g2⟩ := hw.rel (q2.keep X.keep) X.base
      obtain ⟨ρ2, k1, k2⟩ := nrmAll_ok X.fix _ _ h3 g1
      exact hQ a' w' ρ2 I' (((q1.toB _).trans g2).trans k2) k1
    have := List.all_eq_true.1 hc o ho
    simp only [dstOk, hd, decide_eq_true_eq] at this
    exact this
  | .seq x y, hc, hl, s, r, he => by
    simp only [codeOk, Bool.and_eq_true] at hc
    obtain ⟨⟨e, s1⟩, h1, h2⟩ := bind_run he
    have g1 := evCode_ok hmix hE x hc.1 hl.1 s _ h1
    intro a w ρ I hR Q hQ
    refine wp_seq (g1 a w ρ I hR _ fun a' w' ρ' I' q1 q2 => ?_)
    cases e with
    | norm =>
      have g2 := evCode_ok hmix hE y hc.2 hl.2 s1 _ h2
      exact g2 a' w' ρ' I' q2 Q fun a'' w'' ρ'' I'' q3 q4 => hQ a'' w'' ρ'' I'' (q1.trans q3) q4
    | exit id => cases leaf_run h2; exact hQ a' w' ρ' I' q1 q2
    | ret => cases leaf_run h2; exact hQ a' w' ρ' I' q1 q2
  | .cond c x y, hc, hl, s, r, he => by
    simp only [codeOk, Bool.and_eq_true] at hc
    intro a w ρ I hR Q hQ
    have hv := vals_of hR.rel (tm := s.tm) (fun _ => rfl) c
    simp only [evCode] at he
    split at he
    · rename_i h0
      rw [h0] at hv
      exact wp_cond_true hv (evCode_ok hmix hE x hc.1 hl.1 s r he a w ρ I hR Q hQ)
    · rename_i h0
      rw [h0] at hv
      exact wp_cond_false hv (evCode_ok hmix hE y hc.2 hl.2 s r he a w ρ I hR Q hQ)
    · rename_i b h0
      rw [h0] at hv
      have hv : a.eval c = .bool b := hv
      rcases node_run he with ⟨rfl, he⟩ | ⟨rfl, he⟩
      · exact wp_cond_true hv (evCode_ok hmix hE x hc.1 hl.1 s r he a w ρ I hR Q hQ)
      · exact wp_cond_false hv (evCode_ok hmix hE y hc.2 hl.2 s r he a w ρ I hR Q hQ)
    · exact (fail_run he).elim
  | .block id body, hc, hl, s, r, he => by
    simp only [evCode] at he
    split at he
    · rename_i t ht
      exact hl.1 s t r ht he
    · obtain ⟨⟨e, s1⟩, h1, h2⟩ := bind_run he
      have g1 := evCode_ok hmix hE body hc hl.2 s _ h1
      intro a w ρ I hR Q hQ
      refine wp_block (g1 a w ρ I hR _ fun a' w' ρ' I' q1 q2 => ?_)
      cases e with
      | norm => cases leaf_run h2; exact hQ a' w' ρ' I' q1 q2
      | ret => cases leaf_run h2; exact hQ a' w' ρ' I' q1 q2
      | exit id' =>
        simp only at h2
        show Exit.inBlock id Q (.exit id') a' w'
        unfold Exit.inBlock
        cases hb : Nat.beq id' id with
        | true =>
          rw [hb] at h2
          cases leaf_run h2
          simp only [Nat.eq_of_beq_eq_true hb, if_true]
          exact hQ a' w' ρ' I' q1 q2
        | false =>
          rw [hb] at h2
          cases leaf_run h2
          have : id' ≠ id := fun e => by rw [e, Nat.beq_refl] at hb; cases hb
          simp only [this, if_false]
          exact hQ a' w' ρ' I' q1 q2
  | .loop body, hc, hl, s, r, he => by
    have step := evCode_ok hmix hE body hc hl
    simp only [evCode] at he
    intro a w ρ I hR Q hQ
    refine wp_loop_ind (fun k a' w' => ∃ s1 ρ' I', ExtB X.base s.hp.at? ρ I w s1.hp.at? ρ' I' w' ∧ RelS n s1 ρ' I' a' w' ∧ (iter (evCode X body) k s1).run = some r) X.fuel ⟨s, ρ, I, ExtB.refl _ _ _ _ _, hR, he⟩ fun k a' w' hJ => ?_
    obtain ⟨s1, ρ', I', q1, q2, q3⟩ := hJ
    cases k with
    | zero => exact (fail_run q3).elim
    | succ k =>
      refine ⟨k, rfl, ?_⟩
      simp only [iter] at q3
      obtain ⟨⟨e, s2⟩, h1, h2⟩ := bind_run q3
      refine step s1 _ h1 a' w' ρ' I' q2 _ fun a'' w'' ρ'' I'' q4 q5 => ?_
      cases e with
      | norm => exact ⟨s2, ρ'', I'', q1.trans q4, q5, h2⟩
      | exit id => cases leaf_run h2; exact hQ a'' w'' ρ'' I'' (q1.trans q4) q5
      | ret => cases leaf_run h2; exact hQ a'' w'' ρ'' I'' (q1.trans q4) q5
  | .rangeFunc .., hc, _, _, _, _ => by simp [codeOk] at hc
  | .scope _, hc, _, _, _, _ => by simp [codeOk] at hc
  | .label _, hc, _, _, _, _ => by simp [codeOk] at hc
  | .goto _, hc, _, _, _, _ => by simp [codeOk] at hc
  | .refuse _, hc, _, _, _, _ => by simp [codeOk] at hc

/- a function's end -/
def resOne (tmps : Array Value) : ResultVar → Sem Value
  | .tmp t => pure (tmps.getD t Go.undef)
  | .cell b t => do loadVar t (← asAddr (tmps.getD b Go.undef))
theorem results_eq (fn : Func) (tmps : Array Value) : results fn tmps = (do let vs ← fn.results.mapM (resOne tmps); pure (if h : vs.size = 1 then vs[0] else .tuple vs)) := rfl

theorem resW_ok {s : St} (hR : RelS n s ρ I a w) : (rs : List ResultVar) → {vs : List V} → resW P s rs = some vs → ∃ us : List Value, (rs.mapM (resOne a.tmps) : Sem (List Value)).run P w = .ok us w ∧ Rvs w I ρ vs us
  | [], vs, h => by simp [resW] at h; subst h; exact ⟨[], by simp, trivial⟩
  | .tmp t :: r, vs, h => by
    simp only [resW, Option.map_eq_some_iff] at h
    obtain ⟨vs', h1, rfl⟩ := h
    obtain ⟨us, h2, h3⟩ := resW_ok hR r h1
    exact ⟨a.tmps.getD t Go.undef :: us, by simp only [List.mapM_cons, resOne, Sem.run_bind, Sem.run_pure, Result.andThen_ok, h2], hR.rel.tm t, h3⟩
  | .cell b t :: r, vs, h => by
    simp only [resW] at h
    split at h
    · rename_i id off hb
      split at h
      · rename_i out ho
        simp only [Option.map_eq_some_iff] at h
        obtain ⟨vs', h1, rfl⟩ := h
        obtain ⟨us, h2, h3⟩ := resW_ok hR r h1
        have hv := hR.rel.tm b
        simp only [vw] at hv
        rw [hb] at hv
        obtain ⟨v, V0, k1, rfl, k3⟩ := loadO_ok (h := s.hp) hR.rel.heap (fun _ _ h => h) hv ho
        obtain ⟨z, _, _, hz⟩ := hv
        rw [hz] at k1
        have k1' : (loadVar t ⟨z.b, off, none⟩).run P w = .ok v w := by simpa [Instr.loadAt, Instr.sureAddr] using k1
        exact ⟨v :: us, by simp only [List.mapM_cons, resOne, Sem.run_bind, Sem.run_pure, Result.andThen_ok, hz, asAddr, k1', h2], k3, h3⟩
      · cases h
    · cases h

theorem mapM_toW : {vs : List V} → {ws : List W} → vs.mapM V.toW = some ws → {us : List Value} → Rvs w I ρ vs us → Rws w I ρ ws us
  | [], ws, h, [], _ => by simp at h; subst h; trivial
  | [], _, _, _ :: _, h => h.elim
  | _ :: _, _, _, [], h => h.elim
  | v :: vs, ws, h, u :: us, ⟨h1, h2⟩ => by
    simp only [List.mapM_cons, Option.bind_eq_bind, Option.bind_eq_some_iff, Option.pure_def, Option.some.injEq] at h
    obtain ⟨x, k1, y, k2, rfl⟩ := h
    refine ⟨?_, mapM_toW k2 h2⟩
    cases v <;> simp [V.toW] at k1 <;> subst k1 <;> exact h1

theorem resV_ok {s : St} (hR : RelS n s ρ I a w) {fn : Func} {v : V} (h : resV P s fn.results.toList = some v) : ∃ u, (results fn a.tmps).run P w = .ok u w ∧ Rv w I ρ v u := by
  unfold resV at h
  cases hw : resW P s fn.results.toList with
  | none => rw [hw] at h; cases h
  | some vs =>
    rw [hw] at h
    obtain ⟨us, h1, h2⟩ := resW_ok hR fn.results.toList hw
    have hrun : (results fn a.tmps).run P w = .ok (if h : us.toArray.size = 1 then us.toArray[0] else .tuple us.toArray) w := by
      rw [results_eq, Array.mapM_eq_mapM_toList]
      simp only [Sem.run_bind, Sem.run_map, h1, Result.andThen_ok, Sem.run_pure]
    match vs, us, h2, h, hrun with
    | [x], [u], ⟨h3, _⟩, h, hrun =>
      simp only [Option.some.injEq] at h
      subst h
      exact ⟨u, by simpa using hrun, h3⟩
    | [], [], _, h, hrun =>
      simp at h
      subst h
      exact ⟨.tuple #[], by simpa using hrun, _, rfl, trivial⟩
    | x :: y :: vs, u :: u' :: us, h2, h, hrun =>
      simp only [Option.map_eq_some_iff] at h
      obtain ⟨ws, k1, rfl⟩ := h
      exact ⟨.tuple (u :: u' :: us).toArray, by simpa using hrun, _, rfl, mapM_toW k1 h2⟩
    | [_], [], h2, _, _ => exact h2.elim
    | [_], _ :: _ :: _, ⟨_, h2⟩, _, _ => exact h2.elim
    | [], _ :: _, h2, _, _ => exact h2.elim
    | _ :: _ :: _, [], h2, _, _ => exact h2.elim
    | _ :: _ :: _, [_], ⟨_, h2⟩, _, _ => exact h2.elim

theorem tget_init : (args : List V) → (k t : Nat) → tget (initTm k args) t = if k ≤ t then (args[t - k]?).getD (.c .any) else .c .any
  | [], k, t => by simp [initTm, tget_nil]
  | v :: r, k, t => by
    simp only [initTm, tget_cons]
    cases hb : Nat.beq k t with
    | true => have := Nat.eq_of_beq_eq_true hb; subst this; simp
    | false =>
      have hne : k ≠ t := fun e => by rw [e, Nat.beq_refl] at hb; cases hb
      rw [cond_false, tget_init r (k + 1) t]
      by_cases h : k ≤ t
      · rw [if_pos h, if_pos (by omega), show t - k = (t - (k + 1)) + 1 by omega]
        simp
      · rw [if_neg h, if_neg (by omega)]

theorem Rvs_get : {vs : List V} → {us : List Value} → Rvs w I ρ vs us → ∀ i : Nat, Rv w I ρ ((vs[i]?).getD (.c .any)) ((us[i]?).getD Go.undef)
  | [], [], _, i => by simp; trivial
  | [], _ :: _, h, _ => h.elim
  | _ :: _, [], h, _ => h.elim
  | _ :: _, _ :: _, ⟨h1, h2⟩, 0 => by simpa using h1
  | _ :: _, _ :: _, ⟨h1, h2⟩, i + 1 => by simpa using Rvs_get h2 i
theorem Rvs_length : {vs : List V} → {us : List Value} → Rvs w I ρ vs us → vs.length = us.length
  | [], [], _ => rfl
  | [], _ :: _, h => h.elim
  | _ :: _, [], h => h.elim
  | _ :: _, _ :: _, ⟨_, h2⟩ => congrArg (· + 1) (Rvs_length h2)

/-- **A function's contract out of its reckoning.** -/
theorem evFn_ok {X : Ctx} {fn : Func} {body : Code} {k : FuncId} {args : List V} {m : List Obj} {v : V} {m' : Heap} (hmix : X.P.follows .mixedOrders = true) (hE : EnvOk X.P X.E) (hf : X.P.funcs[k]? = some fn) (hb : fn.body = some body) (hname : (fn.name == "runtime.NumGoroutine") = false)
    (hc : codeOk fn.ntmps body = true) (hlen : args.length ≤ fn.ntmps) (hl : lpOk (X.at m.length) fn.ntmps body) (he : (evFn X fn body args (m.map some)).run = some (v, m')) : Triple X.P k args m (.full v m') := by
  intro ρ I w vals hH hdom hargs
  left
  refine ⟨?_, ?_⟩
  · have hname' : ¬ fn.name = "runtime.NumGoroutine" := by simpa using hname
    simp [callFunc, hf, hname', hb]
  · refine calls_of_wp hf hb ?_
    obtain ⟨r, h1, h2⟩ := bind_run he
    have hg := evCode_ok (X := X.at (m.map some).length) hmix hE body hc (by rw [List.length_map]; exact hl) _ r h1
    have hvl : vals.size ≤ fn.ntmps := by
      have := Rvs_length hargs
      simp at this
      omega
    refine hg _ w ρ I ⟨⟨?_, rfl, ?_, fun t => ?_⟩, ?_⟩ _ fun a' w' ρ' I' q1 q2 => ?_
    · have : Heap.at? (m.map some) = obOf m := by
        funext i
        simp only [Heap.at?, obOf, List.getElem?_map]
        cases m[i]? <;> rfl
      simp only [vw]
      rw [this]; exact hH
    · simp; omega
    · simp only [vw]
      rw [tget_init, if_pos (Nat.zero_le _), Nat.sub_zero]
      by_cases ht : t < vals.size
      · have := Rvs_get hargs t
        have e : (vals ++ Array.replicate (fn.ntmps - vals.size) Go.undef).getD t Go.undef = (vals.toList[t]?).getD Go.undef := by
          rw [Array.getD_eq_getD_getElem?, Array.getElem?_append_left ht]
          simp
        rw [e]; exact this
      · have := Rvs_length hargs
        simp at this
        rw [List.getElem?_eq_none (by omega)]
        trivial
    · intro id x hx
      simpa using hdom id x hx
    · have hend : ∃ v', (results fn a'.tmps).run X.P w' = .ok v' w' ∧ (∃ cv, Ending.returned v' = .returned cv ∧ ∃ ρ' I', FullEnd m ρ I w v m' cv w' ρ' I') := by
        unfold endV at h2
        split at h2
        · exact (fail_run h2).elim
        · split at h2
          · rename_i v0 hv
            cases leaf_run h2
            obtain ⟨u, k1, k2⟩ := resV_ok q2 hv
            refine ⟨u, k1, u, rfl, ρ', I', ?_, q2.rel.heap, q2.dom, k2⟩
            have : Heap.at? (m.map some) = obOf m := by
              funext i
              simp only [Heap.at?, obOf, List.getElem?_map]
              cases m[i]? <;> rfl
            rw [← this]
            exact q1.full fun id x hx => by simpa [Ctx.at] using hdom id x hx
          · exact (fail_run h2).elim
      cases hr : r.1 with
      | norm => exact ⟨q2.rel.defers, hend⟩
      | ret => exact ⟨q2.rel.defers, hend⟩
      | exit id => simp only [endV, hr] at h2; exact (fail_run h2).elim
end
end Go.Eng
