/- The engine, part 13: maps with texts as keys, make, conversions. -/
import Derived.Test.YtnngcneobkfijaaE12
import Derived.MapKept
set_option linter.unusedSimpArgs false
set_option linter.unusedVariables false
namespace Go.Eng
section
variable {P : Program} {w : World} {I : Nat → Prop} {ρ : Rho} {ob : Nat → Option Obj} {h : Heap}

theorem tupC_cells : {cs : Shs} → {xs : List C} → {t : Tup cs} → tupC cs xs = some t → {vs : List Value} → Rcs w I ρ xs vs → {ρ' : Rho} → Rcs w I ρ' (cellsT cs t) vs
  | .nil, [], _, _, [], _, _ => trivial
  | .nil, [], _, _, _ :: _, hr, _ => hr.elim
  | .nil, _ :: _, _, h, _, _, _ => by simp [tupC] at h
  | .cons _ _, [], _, h, _, _, _ => by simp [tupC] at h
  | .cons _ _, _ :: _, _, _, [], hr, _ => hr.elim
  | .cons s r, x :: xs, t, h, v :: vs, ⟨h1, h2⟩, _ => by
    simp only [tupC] at h
    split at h
    · rename_i a b ha hb
      cases h
      exact ⟨cellD_ok s a v (datC_ok ha h1), tupC_cells hb h2⟩
    · cases h

/-- The zero of such data. -/
theorem zeroOk_rel : {cs : Shs} → {xs : List C} → zeroOk cs xs = true → {vs : List Value} → Rcs w I ρ xs vs → {ρ' : Rho} → Rcs w I ρ' (cellsT cs (dTup cs)) vs
  | .nil, [], _, [], _, _ => trivial
  | .nil, [], _, _ :: _, hr, _ => hr.elim
  | .nil, _ :: _, h, _, _, _ => by simp [zeroOk] at h
  | .cons s _, [], h, _, _, _ => by cases s <;> simp [zeroOk] at h
  | .cons _ _, _ :: _, _, [], hr, _ => hr.elim
  | .cons s r, x :: xs, h, v :: vs, ⟨h1, h2⟩, ρ' => by
    cases s with
    | bool =>
      cases x <;> simp [zeroOk] at h
      exact ⟨h1, zeroOk_rel h h2⟩
    | int k =>
      cases x <;> simp [zeroOk] at h
      obtain ⟨⟨rfl, rfl⟩, h⟩ := h
      exact ⟨h1, zeroOk_rel h h2⟩
    | str =>
      cases x <;> simp [zeroOk] at h
      rename_i s
      obtain ⟨hs, h⟩ := h
      subst hs
      exact ⟨h1, zeroOk_rel h h2⟩
    | lst cs =>
      cases x <;> simp [zeroOk] at h
      have e : v = .slice none 0 0 := h1
      subst e
      exact ⟨⟨none, 0, rfl, Nat.le_refl _, fun _ => rfl, fun ad had => by cases had⟩, zeroOk_rel h h2⟩

theorem mget_beq (a b : ByteArray) : (a == b) = decide (a = b) := by
  cases hb : a == b with
  | true => exact (decide_eq_true ((MapKept.bytes_beq a b).1 hb)).symm
  | false => exact (decide_eq_false fun e => by rw [(MapKept.bytes_beq a b).2 e] at hb; cases hb).symm

/-- A text's entry, found. -/
theorem findNow_rents {ag : Bool} {cs : Shs} (k : ByteArray) : (es : List (ByteArray × Tup cs)) → (l : List MapEntry) → (i : Nat) → Rents w I ag cs es l →
    (mget k es = none ∧ Instr.findNow .string (.string k) l i = some none ∧ (∀ x, mput k x es = es ++ [(k, x)]) ∧ mdel k es = es) ∨
    ∃ j x e, mget k es = some x ∧ Instr.findNow .string (.string k) l i = some (some (i + j, e.val)) ∧ l[j]? = some e ∧ e.key = .string k ∧ Rtv w I ag cs x e.val ∧ (∀ y, mput k y es = es.set j (k, y)) ∧ mdel k es = es.eraseIdx j ∧ j < es.length
  | [], [], _, _ => .inl ⟨rfl, rfl, fun _ => rfl, rfl⟩
  | [], _ :: _, _, h => h.elim
  | _ :: _, [], _, h => h.elim
  | (a, x) :: es, e :: l, i, ⟨h1, h2, h3⟩ => by
    by_cases hk : k = a
    · subst hk
      have hb : (k == k) = true := (MapKept.bytes_beq k k).2 rfl
      right
      refine ⟨0, x, e, by simp [mget, hb], ?_, rfl, h1, h2, fun y => by simp [mput, hb], by simp [mdel, hb], by simp⟩
      simp only at h1
      simp [Instr.findNow, h1, Instr.sameNow, hb]
    · have hb : (k == a) = false := by rw [mget_beq]; simpa using hk
      have hs : Instr.findNow .string (.string k) (e :: l) i = Instr.findNow .string (.string k) l (i + 1) := by
        simp only at h1
        simp [Instr.findNow, h1, Instr.sameNow, hb]
      rcases findNow_rents k es l (i + 1) h3 with ⟨m1, m2, m3, m4⟩ | ⟨j, y, e', m1, m2, m3, m4, m5, m6, m7, m8⟩
      · exact .inl ⟨by simp [mget, hb, m1], hs.trans m2, fun x => by simp [mput, hb, m3], by simp [mdel, hb, m4]⟩
      · refine .inr ⟨j + 1, y, e', by simp [mget, hb, m1], ?_, by simpa using m3, m4, m5, fun y => by simp [mput, hb, m6], by simp [mdel, hb, m7], by simpa using m8⟩
        rw [hs, m2, show i + 1 + j = i + (j + 1) by omega]

theorem Rents_app {ag : Bool} {cs : Shs} : {es : List (ByteArray × Tup cs)} → {l : List MapEntry} → Rents w I ag cs es l → {x : ByteArray × Tup cs} → {e : MapEntry} → e.key = .string x.1 → Rtv w I ag cs x.2 e.val → Rents w I ag cs (es ++ [x]) (l ++ [e])
  | [], [], _, _, _, h1, h2 => ⟨h1, h2, trivial⟩
  | [], _ :: _, h, _, _, _, _ => h.elim
  | _ :: _, [], h, _, _, _, _ => h.elim
  | _ :: _, _ :: _, ⟨a, b, c⟩, _, _, h1, h2 => ⟨a, b, Rents_app c h1 h2⟩
theorem Rents_set {ag : Bool} {cs : Shs} : {es : List (ByteArray × Tup cs)} → {l : List MapEntry} → Rents w I ag cs es l → {x : ByteArray × Tup cs} → {e : MapEntry} → e.key = .string x.1 → Rtv w I ag cs x.2 e.val → (j : Nat) → Rents w I ag cs (es.set j x) (l.set j e)
  | [], [], _, _, _, h1, h2, _ => trivial
  | [], _ :: _, h, _, _, _, _, _ => h.elim
  | _ :: _, [], h, _, _, _, _, _ => h.elim
  | _ :: _, _ :: _, ⟨a, b, c⟩, _, _, h1, h2, 0 => ⟨h1, h2, c⟩
  | _ :: _, _ :: _, ⟨a, b, c⟩, _, _, h1, h2, j + 1 => ⟨a, b, Rents_set c h1 h2 j⟩
theorem Rents_erase {ag : Bool} {cs : Shs} : {es : List (ByteArray × Tup cs)} → {l : List MapEntry} → Rents w I ag cs es l → (j : Nat) → Rents w I ag cs (es.eraseIdx j) (l.eraseIdx j)
  | [], [], _, _ => trivial
  | [], _ :: _, h, _ => h.elim
  | _ :: _, [], h, _ => h.elim
  | _ :: _, _ :: _, ⟨a, b, c⟩, 0 => c
  | _ :: _, _ :: _, ⟨a, b, c⟩, j + 1 => ⟨a, b, Rents_erase c j⟩
theorem keyed_ok {t e : TypeId} (hk : keyed P t = some e) : ∃ k, P.underlying t = some (.map k e) ∧ P.underlying k = some .string := by
  unfold keyed at hk
  split at hk
  · rename_i k e' hu
    split at hk
    · rename_i hk2; cases hk; exact ⟨k, hu, hk2⟩
    · cases hk
  · cases hk

theorem Rtv_toW {ag : Bool} {cs : Shs} {x : Tup cs} {v : Value} (hx : Rtv w I ag cs x v) {W0 : W} (hw : toW ag (cellsT cs x) = some W0) : Rw w I ρ W0 v := by
  cases ag with
  | true =>
    simp only [toW, cond_true, Option.some.injEq] at hw
    subst hw
    obtain ⟨vs, h1, h2⟩ := hx
    exact ⟨vs, h1, h2.mono (fun _ h => h) (fun _ _ => rfl) (fun _ _ h => by cases h)⟩
  | false =>
    simp only [toW, cond_false] at hw
    simp only [Rtv] at hx
    split at hw
    · rename_i c hc
      cases hw
      rw [hc] at hx
      exact hx.1.mono (fun _ h => h) (fun _ _ => rfl) (fun _ _ h => by cases h)
    · cases hw

theorem W.toV_rel {W0 : W} {v : Value} (hr : Rw w I ρ W0 v) : Rv w I ρ W0.toV v := by cases W0 <;> exact hr

theorem lookupR_ok {e : TypeId} {ok : Bool} {cs : List C} {b known : Bool} {out : Out} (he : (lookupR P e ok cs b known).run = some out) {v : Value} (hv : ∀ W0, toW (aggT P e) cs = some W0 → Rw w I ρ W0 v) :
    out.upd = [] ∧ out.new = [] ∧ Rv w I ρ out.v (if ok = true then .tuple #[v, .bool b] else v) := by
  unfold lookupR at he
  split at he
  · rename_i W0 hw
    cases leaf_run he
    refine ⟨rfl, rfl, ?_⟩
    have := hv W0 hw
    cases ok with
    | true => exact ⟨_, rfl, this, mkB_ok, trivial⟩
    | false => exact W.toV_rel this
  · exact (fail_run he).elim

def isAgg : Value → Bool
  | .agg _ => true
  | _ => false
theorem zero_agg {t : TypeId} {v : Value} (hz : (P.info? t).bind (·.zero) = some v) : zeroAgg P t = isAgg v := by
  unfold zeroAgg
  rw [hz]
  cases v <;> rfl

theorem lookupO_ok (hH : RelH ob ρ I w) (hm : ∀ id o, h.at? id = some o → ob id = some o) {t : TypeId} {ok : Bool} {x y : V} {vx vy : Value} (hx : Rv w I ρ x vx) (hy : Rv w I ρ y vy) {out : Out} (he : (lookupO P h t ok x y).run = some out) :
    Gives P w I ρ (Instr.lookup t vx vy ok) out := by
  have gives : ∀ {v b}, (Instr.lookup t vx vy ok).run P w = .ok (if ok = true then .tuple #[v, .bool b] else v) w → out.upd = [] ∧ out.new = [] ∧ Rv w I ρ out.v (if ok = true then .tuple #[v, .bool b] else v) → Gives P w I ρ (Instr.lookup t vx vy ok) out := by
    rintro v b h1 ⟨h2, h3, h4⟩
    refine ⟨_, out.v, h1, ?_, h4⟩
    obtain ⟨o1, o2, o3⟩ := out
    simp only at h2 h3
    subst h2; subst h3; rfl
  unfold lookupO at he
  split at he
  · rename_i id k
    have e1 : vy = .string k := hy
    subst e1
    obtain ⟨z, hz, hreal, rfl⟩ := hx
    split at he
    · rename_i e ag cs es hk hat
      obtain ⟨kt, hu, hkt⟩ := keyed_ok hk
      split at he
      · rename_i zc hzc
        split at he
        · rename_i hc
          obtain ⟨hsh, rfl, hza, hzo⟩ := hc
          obtain ⟨y, hy', hro⟩ := hH.obj id _ (hm _ _ hat)
          rw [hz] at hy'; cases hy'
          obtain ⟨_, ents, clock, hb, hents, _, _⟩ := hro
          obtain ⟨zv, hzv, hzcell, ⟨zi, hzi⟩, hzb⟩ := zeroCs_ok hzc
          rcases findNow_rents k es ents.toList 0 hents with ⟨m1, m2, _, _⟩ | ⟨j, x, e', m1, m2, m3, m4, m5, _, _, _⟩
          · rw [m1] at he
            have hrz : Rtv w I (aggT P e) cs (dTup cs) zv := by
              have h0 := zeroOk_rel (ρ' := fun _ => none) hzo (zeroCs_rel (w := w) (I := I) (ρ := ρ) hzcell)
              rw [zero_agg hzb] at hza
              cases ha : aggT P e with
              | true =>
                rw [ha] at hza
                cases zv <;> simp [isAgg] at hza
                exact ⟨_, rfl, by simpa [Value.cells] using h0⟩
              | false =>
                rw [ha] at hza
                have : zv.cells = #[zv] := by cases zv <;> first | rfl | simp [isAgg] at hza
                rw [this] at h0
                exact h0
            refine gives (v := zv) (b := false) ?_ (lookupR_ok he fun W0 hw => Rtv_toW hrz hw)
            simp [Instr.lookup, run_underlying hu, MapKept.run_getObj_map hb, MapKept.run_checkKey (d := .string) hkt (k := .string k) trivial _ 9999, MapKept.run_findKey hkt m2, hzv, Result.andThen]
          · rw [m1] at he
            refine gives (v := e'.val) (b := true) ?_ (lookupR_ok he fun W0 hw => Rtv_toW m5 hw)
            simp [Instr.lookup, run_underlying hu, MapKept.run_getObj_map hb, MapKept.run_checkKey (d := .string) hkt (k := .string k) trivial _ 9999, MapKept.run_findKey hkt m2, Result.andThen]
        · exact (fail_run he).elim
      · exact (fail_run he).elim
    · exact (fail_run he).elim
  · rename_i k
    have e0 : vx = .map none := hx
    have e1 : vy = .string k := hy
    subst e0; subst e1
    split at he
    · rename_i e hk
      obtain ⟨kt, hu, hkt⟩ := keyed_ok hk
      split at he
      · rename_i zc hzc
        split at he
        · rename_i hza
          obtain ⟨zv, hzv, hzcell, ⟨zi, hzi⟩, hzb⟩ := zeroCs_ok hzc
          have h0 := zeroCs_rel (w := w) (I := I) (ρ := ρ) hzcell
          refine gives (v := zv) (b := false) ?_ (lookupR_ok he fun W0 hw => ?_)
          · have hf : Instr.findNow .string (.string k) [] 0 = some none := rfl
            simp [Instr.lookup, run_underlying hu, MapKept.run_checkKey (d := .string) hkt (k := .string k) trivial _ 9999, MapKept.run_findKey hkt hf, hzv, Result.andThen]
          · rw [zero_agg hzb] at hza
            cases ha : aggT P e with
            | true =>
              rw [ha] at hza hw
              simp only [toW, cond_true, Option.some.injEq] at hw
              subst hw
              cases zv <;> simp [isAgg] at hza
              exact ⟨_, rfl, by simpa [Value.cells] using h0⟩
            | false =>
              rw [ha] at hza hw
              have : zv.cells = #[zv] := by cases zv <;> first | rfl | simp [isAgg] at hza
              rw [this] at h0
              simp only [toW, cond_false] at hw
              split at hw
              · cases hw; exact h0.1
              · cases hw
        · exact (fail_run he).elim
      · exact (fail_run he).elim
    · exact (fail_run he).elim
  · exact (fail_run he).elim

/- conversions -/
theorem u8_cells : (s : List (Tup (.cons (.int .u8) .nil))) → (news : List Value) → Rcs w I ρ (flatT (.cons (.int .u8) .nil) s) news → news = (s.map fun t => (t.1 : Int)).map fun n => .int .u8 n
  | [], [], _ => rfl
  | [], _ :: _, h => h.elim
  | _ :: _, [], h => h.elim
  | t :: s, v :: news, h => by
    obtain ⟨h1, h2⟩ := (h : Rc w I ρ (.int .u8 t.1) v ∧ Rcs w I ρ (flatT (.cons (.int .u8) .nil) s) news)
    rw [u8_cells s news h2]
    rw [show v = .int .u8 t.1 from h1]
    rfl
end
end Go.Eng
