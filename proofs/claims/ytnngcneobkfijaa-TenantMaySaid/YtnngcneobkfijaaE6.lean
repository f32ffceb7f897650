/- The engine, part 6: reading memory: loads, addresses, slices, lengths. -/
import Derived.Test.YtnngcneobkfijaaE5
set_option linter.unusedSimpArgs false
set_option linter.unusedVariables false
namespace Go.Eng

theorem cellsT_length : (cs : Shs) → (t : Tup cs) → (cellsT cs t).length = cs.len
  | .nil, _ => rfl
  | .cons _ r, t => by simp [cellsT, Shs.len, cellsT_length r t.2]

theorem cellD_ok {w : World} {I : Nat → Prop} {ρ : Rho} : (s : Sh) → (x : Dat s) → (v : Value) → Rd w I s x v → Rc w I ρ (cellD s x) v
  | .bool, _, _, h => by simpa [Rd, cellD, Rc] using h
  | .int _, _, _, h => by simpa [Rd, cellD, Rc] using h
  | .str, _, _, h => by simpa [Rd, cellD, Rc] using h
  | .lst _, _, _, h => h

/-- An element's cells in memory. -/
theorem Rt_cells {w : World} {I : Nat → Prop} {ρ : Rho} {b : Nat} : (cs : Shs) → (t : Tup cs) → (off : Nat) → Rt w I cs t b off →
    ∃ vs : List Value, vs.length = cs.len ∧ (∀ j v, vs[j]? = some v → w.cell? ⟨b, off + j, none⟩ = some v) ∧ Rcs w I ρ (cellsT cs t) vs
  | .nil, _, _, _ => ⟨[], rfl, by simp, trivial⟩
  | .cons s r, t, off, h => by
    simp only [Rt] at h
    obtain ⟨⟨v, h1, h2⟩, h3⟩ := h
    obtain ⟨vs, k1, k2, k3⟩ := Rt_cells (ρ := ρ) r t.2 (off + 1) h3
    refine ⟨v :: vs, by simp [Shs.len, k1], ?_, cellD_ok _ _ _ h2, k3⟩
    intro j u hu
    cases j with
    | zero => simp at hu; subst hu; simpa using h1
    | succ j => simp at hu; have := k2 j u hu; rwa [show off + 1 + j = off + (j + 1) by omega] at this

section
variable {P : Program} {w : World} {I : Nat → Prop} {ρ : Rho}

theorem add_plain (b off n : Nat) : (⟨b, off, none⟩ : Addr).add n = ⟨b, off + n, none⟩ := by
  unfold Addr.add; split
  · rename_i h; subst h; simp
  · rfl

theorem load_at {t : TypeId} {d : TypeDesc} (hd : P.underlying t = some d) {cs : List C} {vs : List Value} {b off j : Nat} (hc : ∀ i v, vs[i]? = some v → w.cell? ⟨b, off + i, none⟩ = some v) (hr : Rcs w I ρ cs vs)
    (hle : j + tsz P t ≤ cs.length) {V0 : V} (h : (mkV (aggT P t) ((cs.drop j).take (tsz P t))).run = some V0) : ∃ v, (loadVar t ⟨b, off + j, none⟩).run P w = .ok v w ∧ Rv w I ρ V0 v := by
  obtain ⟨i, hi⟩ := info_of_underlying hd
  have hr' := Rcs_take (tsz P t) (Rcs_drop j hr)
  have hl := Rcs_length hr
  rcases mkV_ok hd hr' h with ⟨ha, rfl⟩ | ⟨ha, c, v, hc', hv, rfl, hcv⟩
  · have hlen : ((vs.drop j).take (tsz P t)).length = tsz P t := by simp; omega
    have hload := run_loadCells_list (P := P) w ⟨b, off + j, none⟩ ((vs.drop j).take (tsz P t)) (fun k v hk => by
      rw [add_plain]
      rw [List.getElem?_take] at hk
      split at hk
      · rw [List.getElem?_drop] at hk; have := hc _ _ hk; rwa [← Nat.add_assoc] at this
      · cases hk)
    rw [hlen] at hload
    refine ⟨.agg ((vs.drop j).take (tsz P t)).toArray, ?_, _, rfl, by simpa using hr'⟩
    simp only [loadVar, Sem.run_bind, run_isAgg' hd, Result.andThen_ok, ha, if_true, run_sizeOf' hi, hload, Sem.run_pure]
  · refine ⟨v, ?_, hcv⟩
    have hv' : vs[j]? = some v := by
      have h1 : (List.take (tsz P t) (List.drop j vs))[0]? = some v := by rw [hv]; rfl
      rw [List.getElem?_take] at h1
      split at h1
      · simpa using h1
      · cases h1
    simp only [loadVar, Sem.run_bind, run_isAgg' hd, Result.andThen_ok, ha, Bool.false_eq_true, if_false, run_load, hc _ _ hv']

theorem box_cells {x : Blk} {cs : List C} (h : Ro w I ρ x (.box cs)) : ∃ c : Array Value, x.real = true ∧ c.size = cs.length ∧ x.m = c.size ∧ Rcs w I ρ cs c.toList ∧ (∀ (i : Nat) v, c.toList[i]? = some v → w.cell? ⟨x.b, 0 + i, none⟩ = some v) := by
  obtain ⟨hr, c, T, fz, h1, h2, _, h4⟩ := h
  refine ⟨c, hr, by have := Rcs_length h4; simpa using this.symm, h2, h4, fun i v hv => ?_⟩
  simp only [World.cell?, h1, Nat.zero_add]
  simpa using hv

theorem getD_get {α : Type} {l : List α} {e : Nat} {d : α} (h : e < l.length) : l[e]? = some (l.getD e d) := by simp [List.getD, h]

variable {ob : Nat → Option Obj} {h : Heap}

theorem loadO_ok (hH : RelH ob ρ I w) (hm : ∀ id o, h.at? id = some o → ob id = some o) {t : TypeId} {x : V} {vx : Value} (hx : Rv w I ρ x vx) {out : Out} (he : (loadO P h t x).run = some out) : Gives P w I ρ (Instr.loadAt t vx) out := by
  unfold loadO at he
  split at he
  · exact (fail_run he).elim
  · rename_i d hd
    split at he
    · rename_i id off
      split at he
      · rename_i cs hat
        split at he
        · rename_i hle
          obtain ⟨V0, h1, h2⟩ := bind_run he
          cases leaf_run h2
          obtain ⟨y, hy, hro⟩ := hH.obj _ _ (hm _ _ hat)
          obtain ⟨z, hz, _, rfl⟩ := hx
          rw [hz] at hy; cases hy
          obtain ⟨c, _, _, _, k1, k2⟩ := box_cells hro
          obtain ⟨v, hv, hrv⟩ := load_at hd k2 k1 hle h1
          rw [Nat.zero_add] at hv
          exact ⟨v, V0, by simp [Instr.loadAt, Instr.sureAddr, hv], rfl, hrv⟩
        · exact (fail_run he).elim
      · exact (fail_run he).elim
    · rename_i id e j
      split at he
      · rename_i cs l o hat
        obtain ⟨hlt, he⟩ := node_fail he
        simp only [decide_eq_true_eq] at hlt
        split at he
        · rename_i hle
          obtain ⟨V0, h1, h2⟩ := bind_run he
          cases leaf_run h2
          obtain ⟨y, hy, hro⟩ := hH.obj _ _ (hm _ _ hat)
          obtain ⟨z, hz, hreal, rfl⟩ := hx
          rw [hz] at hy; cases hy
          obtain ⟨_, hsz, _, hro⟩ := hro
          obtain ⟨c, T, fz, _, _, _, k4, _⟩ := hro hreal
          obtain ⟨vs, m1, m2, m3⟩ := Rt_cells (ρ := ρ) cs _ _ (k4 e _ (getD_get (d := dTup cs) hlt))
          obtain ⟨v, hv, hrv⟩ := load_at hd m2 m3 (by rw [cellsT_length]; exact hle) h1
          rw [hsz]
          exact ⟨v, V0, by simp [Instr.loadAt, Instr.sureAddr, hv], rfl, hrv⟩
        · exact (fail_run he).elim
      · exact (fail_run he).elim
    · rename_i cs l e j
      obtain ⟨hlt, he⟩ := node_fail he
      simp only [decide_eq_true_eq] at hlt
      split at he
      · rename_i hle
        obtain ⟨V0, h1, h2⟩ := bind_run he
        cases leaf_run h2
        obtain ⟨b, off, rfl, _, hrt⟩ := hx
        obtain ⟨vs, m1, m2, m3⟩ := Rt_cells (ρ := ρ) cs _ _ (hrt e _ (getD_get (d := dTup cs) hlt))
        obtain ⟨v, hv, hrv⟩ := load_at hd m2 m3 (by rw [cellsT_length]; exact hle) h1
        exact ⟨v, V0, by simp [Instr.loadAt, Instr.sureAddr, hv], rfl, hrv⟩
      · exact (fail_run he).elim
    · exact (fail_run he).elim

theorem fieldOf_ok {s : TypeId} {f : Nat} {fl : Go.Field} (h : fieldOf P s f = some fl) : ∃ fs, P.underlying s = some (.struct fs) ∧ fs[f]? = some fl := by
  unfold fieldOf at h
  split at h
  · rename_i fs hd; exact ⟨fs, hd, h⟩
  · cases h

theorem fieldAddrO_ok {s : TypeId} {f : Nat} {x : V} {vx : Value} (hx : Rv w I ρ x vx) {out : Out} (he : (fieldAddrO P s f x).run = some out) : Gives P w I ρ (Instr.fieldAt s vx f) out := by
  unfold fieldAddrO at he
  split at he
  · rename_i x
    split at he
    · rename_i fl hfl
      obtain ⟨fs, hd, hf⟩ := fieldOf_ok hfl
      split at he
      · exact (fail_run he).elim
      · rename_i hz
        have hsz : ∃ i, P.info? fl.type = some i := by
          cases hi : P.info? fl.type with
          | some i => exact ⟨i, rfl⟩
          | none => simp [tsz, hi] at hz
        obtain ⟨i, hi⟩ := hsz
        have hp : ∀ b off, (fieldPlace ⟨b, off, none⟩ fl).run P w = .ok ⟨b, off + fl.offset, none⟩ w := by
          intro b off
          simp only [fieldPlace, Sem.run_bind, run_sizeOf' hi, Result.andThen_ok, hz, if_false, Sem.run_pure, add_plain]
        split at he
        · cases pureO_run he
          obtain ⟨z, hz, hreal, rfl⟩ := hx
          exact Gives.c (by simp [Instr.fieldAt, run_underlying hd, hf, Instr.sureAddr, hp]) ⟨z, hz, hreal, rfl⟩
        · rename_i id e j
          cases pureO_run he
          obtain ⟨z, hz, hreal, rfl⟩ := hx
          exact Gives.c (v := .pointer (some ⟨z.b, e * z.sz + j + fl.offset, none⟩)) (by simp [Instr.fieldAt, run_underlying hd, hf, Instr.sureAddr, hp]) ⟨z, hz, hreal, by rw [Nat.add_assoc]⟩
        · rename_i cs l e j
          cases pureO_run he
          obtain ⟨b, off, rfl, h1, h2⟩ := hx
          exact Gives.c (v := .pointer (some ⟨b, off + e * cs.len + j + fl.offset, none⟩)) (by simp [Instr.fieldAt, run_underlying hd, hf, Instr.sureAddr, hp]) ⟨b, off, by rw [Nat.add_assoc], h1, h2⟩
        · exact (fail_run he).elim
    · exact (fail_run he).elim
  · exact (fail_run he).elim

theorem fieldO_ok {s : TypeId} {f : Nat} {x : V} {vx : Value} (hx : Rv w I ρ x vx) {out : Out} (he : (fieldO P s f x).run = some out) : Gives P w I ρ (Instr.field s vx f) out := by
  unfold fieldO at he
  split at he
  · rename_i cs
    split at he
    · rename_i fl hfl
      obtain ⟨fs, hd, hf⟩ := fieldOf_ok hfl
      split at he
      · rename_i hle
        obtain ⟨V0, h1, h2⟩ := bind_run he
        cases leaf_run h2
        obtain ⟨vs, rfl, hr⟩ := hx
        obtain ⟨d, hd'⟩ := Option.isSome_iff_exists.1 hle.1
        obtain ⟨v, hv, hrv⟩ := part_ok hd' hr hle.2 h1
        exact ⟨v, V0, by simp [Instr.field, run_underlying hd, hf, asAgg, hv], rfl, hrv⟩
      · exact (fail_run he).elim
    · exact (fail_run he).elim
  · exact (fail_run he).elim

theorem inB_ok {i : Int} {n : Nat} (h : inB i n = true) : 0 ≤ i ∧ i < (n : Int) := by simpa [inB] using h

theorem arrCases_ok {k : Nat → Tree Out} {i : Int} {out : Out} : (n j : Nat) → (arrCases k i n j).run = some out → ∃ m, j ≤ m ∧ m < j + n ∧ i = (m : Int) ∧ (k m).run = some out
  | 0, j, h => (fail_run h).elim
  | n + 1, j, h => by
    rcases node_run h with ⟨h1, h2⟩ | ⟨_, h2⟩
    · exact ⟨j, Nat.le_refl _, by omega, by simpa using h1, h2⟩
    · obtain ⟨m, a1, a2, a3, a4⟩ := arrCases_ok n (j + 1) h2
      exact ⟨m, by omega, by omega, a3, a4⟩

theorem info_of_tsz {t : TypeId} (h : tsz P t ≠ 0) : ∃ i, P.info? t = some i := by
  cases hi : P.info? t with
  | some i => exact ⟨i, rfl⟩
  | none => simp [tsz, hi] at h

theorem run_indexAt_slice {t e : TypeId} (hd : P.underlying t = some (.slice e)) (hz : tsz P e ≠ 0) {k : IntKind} {i : Int} {a : Addr} {len cap : Nat} (h : 0 ≤ i ∧ i < (len : Int)) :
    (Instr.indexAt t (.slice (some a) len cap) (.int k i)).run P w = .ok (.pointer (some (a.add (i.toNat * tsz P e)))) w := by
  obtain ⟨j, hj⟩ := info_of_tsz hz
  simp [Instr.indexAt, asIntOf, run_underlying hd, run_sizeOf' hj, h]
theorem run_indexAt_array {t e : TypeId} {n : Nat} (hd : P.underlying t = some (.array n e)) (hz : tsz P e ≠ 0) {k : IntKind} {i : Int} {a : Addr} (h : 0 ≤ i ∧ i < (n : Int)) :
    (Instr.indexAt t (.pointer (some a)) (.int k i)).run P w = .ok (.pointer (some (a.add (i.toNat * tsz P e)))) w := by
  obtain ⟨j, hj⟩ := info_of_tsz hz
  simp [Instr.indexAt, asIntOf, run_underlying hd, run_sizeOf' hj, Instr.sureAddr, h]

theorem indexAddrO_ok (hH : RelH ob ρ I w) (hm : ∀ id o, h.at? id = some o → ob id = some o) {t : TypeId} {x y : V} {vx vy : Value} (hx : Rv w I ρ x vx) (hy : Rv w I ρ y vy) {out : Out} (he : (indexAddrO P h t x y).run = some out) :
    Gives P w I ρ (Instr.indexAt t vx vy) out := by
  unfold indexAddrO at he
  split at he
  · rename_i x y
    split at he
    · exact (fail_run he).elim
    · rename_i k i ki hi
      have e1 := asI_ok hy hi
      subst e1
      split at he
      · rename_i e id sz kn hd
        split at he
        · rename_i cs l o hat
          split at he
          · rename_i hsz
            obtain ⟨hb, he⟩ := test_fail he
            cases pureO_run he
            have hb := inB_ok hb
            obtain ⟨y, hy, hro⟩ := hH.obj _ _ (hm _ _ hat)
            obtain ⟨z, a, cap, hz, hzs, rfl, hle, hat1, hat2⟩ := hx
            have hzy : z = y := by rw [hz] at hy; exact Option.some.inj hy
            subst hzy
            obtain ⟨hlen, hsz', _⟩ := hro
            have hcap : cap ≠ 0 := by omega
            cases a with
            | none => exact absurd (hat1 rfl) hcap
            | some ad =>
              obtain ⟨hreal, rfl, _⟩ := (hat2 ad rfl).resolve_left hcap
              refine Gives.c (run_indexAt_slice hd hsz.2.2 (by omega)) ⟨z, hz, hreal, ?_⟩
              rw [add_plain, hsz.2.1, hzs, Nat.zero_add]; rfl
          · exact (fail_run he).elim
        · exact (fail_run he).elim
      · rename_i e id sz off len hd
        split at he
        · rename_i cs l o hat
          split at he
          · rename_i hsz
            obtain ⟨hb, he⟩ := node_fail he
            cases pureO_run he
            have hb := inB_ok hb
            obtain ⟨z, a, cap, hz, hzs, rfl, hle, hle2, hat1, hat2⟩ := hx
            have hcap : cap ≠ 0 := by omega
            cases a with
            | none => exact absurd (hat1 rfl) hcap
            | some ad =>
              obtain ⟨hreal, rfl, _⟩ := (hat2 ad rfl).resolve_left hcap
              refine Gives.c (run_indexAt_slice hd hsz.2.2 (by omega)) ⟨z, hz, hreal, ?_⟩
              rw [add_plain, hsz.2.1, hzs, Nat.add_mul]; rfl
          · exact (fail_run he).elim
        · exact (fail_run he).elim
      · rename_i e cs l hd
        split at he
        · rename_i hsz
          obtain ⟨hb, he⟩ := node_fail he
          cases pureO_run he
          have hb := inB_ok hb
          obtain ⟨a, cap, rfl, hle, hn, hrl⟩ := hx
          have hl0 : l.length ≠ 0 := by omega
          cases a with
          | none => exact absurd (hn rfl) hl0
          | some ad =>
            obtain ⟨hs, hI, hrt⟩ := hrl ad rfl hl0
            obtain ⟨b, off, sp⟩ := ad
            simp only at hs; subst hs
            refine Gives.c (run_indexAt_slice hd hsz.2 (by omega)) ⟨b, off, ?_, hI, hrt⟩
            rw [add_plain, hsz.1]; rfl
        · exact (fail_run he).elim
      · rename_i n e id off hd
        split at he
        · rename_i hz
          obtain ⟨z, hzz, hreal, rfl⟩ := hx
          split at he
          · split at he
            · rename_i hb
              cases pureO_run he
              refine Gives.c (run_indexAt_array hd hz (inB_ok hb)) ⟨z, hzz, hreal, ?_⟩
              rw [add_plain]
            · exact (fail_run he).elim
          · obtain ⟨m, _, hm2, rfl, he2⟩ := arrCases_ok _ _ he
            cases pureO_run he2
            refine Gives.c (run_indexAt_array hd hz (by omega)) ⟨z, hzz, hreal, ?_⟩
            rw [add_plain]; rfl
        · exact (fail_run he).elim
      · exact (fail_run he).elim
  · exact (fail_run he).elim

theorem get!_of_lt {s : ByteArray} {i : Nat} (h : i < s.size) : s[i]? = some (s.get! i) := by
  have e1 : s[i]? = some (s[i]'h) := by rw [getElem?_pos s i h]
  rw [e1]
  congr 1
  obtain ⟨l⟩ := s
  show l[i]'h = l[i]!
  exact (getElem!_pos l i h).symm

theorem indexO_ok {t : TypeId} {x y : V} {vx vy : Value} (hx : Rv w I ρ x vx) (hy : Rv w I ρ y vy) {out : Out} (he : (indexO P t x y).run = some out) : Gives P w I ρ (Instr.index t vx vy) out := by
  unfold indexO at he
  split at he
  · rename_i s y
    split at he
    · rename_i k i ki hi hd
      have e1 := asI_ok hy hi
      subst e1
      obtain ⟨hb, he⟩ := node_fail he
      cases pureO_run he
      have hb := inB_ok hb
      have e2 : vx = .string s := hx
      subst e2
      refine Gives.c (v := .int .u8 ((s.get! i.toNat).toNat : Nat)) ?_ rfl
      have := get!_of_lt (s := s) (i := i.toNat) (by omega)
      simp [Instr.index, asIntOf, run_underlying hd, hb.1, this]
    · exact (fail_run he).elim
  · rename_i xs y
    split at he
    · rename_i k i ki n e hi hd
      have e1 := asI_ok hy hi
      subst e1
      obtain ⟨vs, rfl, hr⟩ := hx
      have key : ∀ j : Nat, i = (j : Int) → j < n → ∀ {out}, (if (P.underlying e).isSome = true ∧ j * tsz P e + tsz P e ≤ xs.length then (mkV (aggT P e) ((xs.drop (j * tsz P e)).take (tsz P e))).bind fun v => Tree.leaf ({ v := v } : Out) else .fail).run = some out →
          Gives P w I ρ (Instr.index t (.agg vs) (.int k i)) out := by
        intro j hij hj out he
        split at he
        · rename_i hle
          obtain ⟨V0, h1, h2⟩ := bind_run he
          cases leaf_run h2
          obtain ⟨d, hd'⟩ := Option.isSome_iff_exists.1 hle.1
          obtain ⟨v, hv, hrv⟩ := part_ok hd' hr hle.2 h1
          obtain ⟨ii, hii⟩ := info_of_underlying hd'
          subst hij
          exact ⟨v, V0, by simp [Instr.index, asIntOf, run_underlying hd, run_sizeOf' hii, hj, hv], rfl, hrv⟩
        · exact (fail_run he).elim
      split at he
      · split at he
        · rename_i hb
          have hb := inB_ok hb
          exact key i.toNat (by omega) (by omega) he
        · exact (fail_run he).elim
      · obtain ⟨m, _, hm2, hm3, he⟩ := arrCases_ok _ _ he
        exact key m hm3 (by omega) he
    · exact (fail_run he).elim
  · exact (fail_run he).elim
end
end Go.Eng
