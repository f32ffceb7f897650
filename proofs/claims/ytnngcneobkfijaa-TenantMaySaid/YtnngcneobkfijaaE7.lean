/- The engine, part 7: slices, lengths, conversions, lookups. -/
import Derived.Test.YtnngcneobkfijaaE6
set_option linter.unusedSimpArgs false
set_option linter.unusedVariables false
namespace Go.Eng
section
variable {P : Program} {w : World} {I : Nat → Prop} {ρ : Rho}

def Rvo (w : World) (I : Nat → Prop) (ρ : Rho) : Option V → Option Value → Prop
  | none, none => True
  | some x, some v => Rv w I ρ x v
  | _, _ => False

theorem bound_ok {lo : Option V} {vlo : Option Value} (h : Rvo w I ρ lo vlo) {d : Int} {a : Int} {ka : Bool} (hb : bound lo d = some (a, ka)) : (vlo = none ∧ a = d) ∨ ∃ k, vlo = some (.int k a) := by
  cases lo with
  | none =>
    cases vlo with
    | none => simp [bound] at hb; exact .inl ⟨rfl, hb.1.symm⟩
    | some v => exact h.elim
  | some x =>
    cases vlo with
    | none => exact h.elim
    | some v =>
      cases x with
      | c x =>
        simp only [bound, Option.map_eq_some_iff] at hb
        obtain ⟨⟨k, n, kn⟩, h1, h2⟩ := hb
        simp at h2
        obtain ⟨rfl, rfl⟩ := h2
        exact .inr ⟨k, by rw [asI_ok h h1]⟩
      | agg _ => simp [bound] at hb
      | tup _ => simp [bound] at hb

theorem run_sliceBounds {s : Bool} {len cap : Nat} {vlo vhi : Option Value} {a b : Int} (ha : (vlo = none ∧ a = 0) ∨ ∃ k, vlo = some (.int k a)) (hb : (vhi = none ∧ b = len) ∨ ∃ k, vhi = some (.int k b))
    (h0 : 0 ≤ a) (h1 : a ≤ b) (h2 : b ≤ (len : Int)) (h3 : len ≤ cap) : (Instr.sliceBounds s len cap vlo vhi none).run P w = .ok (a.toNat, b.toNat, cap) w := by
  have c1 : a ≤ ((b.toNat : Nat) : Int) := by omega
  have c2 : b ≤ (cap : Int) := by omega
  have c3 : 0 ≤ b := by omega
  have c4 : a ≤ (len : Int) := by omega
  rcases ha with ⟨rfl, rfl⟩ | ⟨k, rfl⟩ <;> rcases hb with ⟨rfl, rfl⟩ | ⟨k', rfl⟩
  · simp [Instr.sliceBounds]
  · simp [Instr.sliceBounds, Instr.sliceBound, asIntOf, c2, c3]
  · simp [Instr.sliceBounds, Instr.sliceBound, asIntOf, c4, h0]
  · simp [Instr.sliceBounds, Instr.sliceBound, asIntOf, c2, c3, h0, h1]
    intro hx; omega

theorem run_slice_sl {t e : TypeId} (hd : P.underlying t = some (.slice e)) (hz : tsz P e ≠ 0) {vlo vhi : Option Value} {a b : Int} {ad : Option Addr} {len cap : Nat} (ha : (vlo = none ∧ a = 0) ∨ ∃ k, vlo = some (.int k a)) (hb : (vhi = none ∧ b = len) ∨ ∃ k, vhi = some (.int k b))
    (h0 : 0 ≤ a ∧ a ≤ b ∧ b ≤ (len : Int)) (h3 : len ≤ cap) : (Instr.sliceAt t (.slice ad len cap) vlo vhi none).run P w =
      .ok (.slice (if cap = a.toNat then ad else ad.map (·.add (a.toNat * tsz P e))) (b.toNat - a.toNat) (cap - a.toNat)) w := by
  obtain ⟨j, hj⟩ := info_of_tsz hz
  simp [Instr.sliceAt, run_underlying hd, Instr.slice, run_sliceBounds ha hb h0.1 h0.2.1 h0.2.2 h3, run_sizeOf' hj]

theorem run_slice_str {t : TypeId} (hd : P.underlying t = some .string) {vlo vhi : Option Value} {a b : Int} {s : ByteArray} (ha : (vlo = none ∧ a = 0) ∨ ∃ k, vlo = some (.int k a)) (hb : (vhi = none ∧ b = s.size) ∨ ∃ k, vhi = some (.int k b))
    (h0 : 0 ≤ a ∧ a ≤ b ∧ b ≤ (s.size : Int)) : (Instr.sliceAt t (.string s) vlo vhi none).run P w = .ok (.string (s.extract a.toNat b.toNat)) w := by
  simp [Instr.sliceAt, run_underlying hd, Instr.slice, run_sliceBounds ha hb h0.1 h0.2.1 h0.2.2 (Nat.le_refl _)]

theorem sub_get {α : Type} {l : List α} {a n i : Nat} {t : α} (h : ((l.drop a).take n)[i]? = some t) : l[a + i]? = some t ∧ i < n := by
  rw [List.getElem?_take] at h
  split at h
  · rename_i hi; rw [List.getElem?_drop] at h; exact ⟨h, hi⟩
  · cases h

/-- a piece of a slice of data is data -/
theorem sub_data {cs : Shs} {l : List (Tup cs)} {ad : Option Addr} {cap a n : Nat} (hr : Rd w I (.lst cs) l (.slice ad l.length cap)) (hn : a + n ≤ l.length) :
    Rd w I (.lst cs) ((l.drop a).take n) (.slice (if cap = a then ad else ad.map (·.add (a * cs.len))) n (cap - a)) := by
  obtain ⟨ad', cap', e, hle, hnone, hsome⟩ := hr
  simp only [Value.slice.injEq] at e
  obtain ⟨rfl, _, rfl⟩ := e
  have hl : ((l.drop a).take n).length = n := by simp; omega
  refine ⟨_, _, by rw [show List.length (asL cs ((l.drop a).take n)) = n from hl], by show List.length ((l.drop a).take n) ≤ _; rw [hl]; have : List.length l ≤ cap := hle; omega, ?_, ?_⟩
  · intro h
    show List.length ((l.drop a).take n) = 0
    rw [hl]
    have : ad = none := by
      split at h
      · exact h
      · simpa using h
    have := hnone this
    have : List.length l = 0 := this
    omega
  · intro x hx hl0
    have hl0 : n ≠ 0 := by have h : List.length ((l.drop a).take n) ≠ 0 := hl0; rwa [hl] at h
    have hne : cap ≠ a := by have : List.length l ≤ cap := hle; omega
    rw [if_neg hne] at hx
    cases ad with
    | none => simp at hx
    | some y =>
      simp at hx
      obtain ⟨h1, h2, h3⟩ := hsome y rfl (by show List.length l ≠ 0; omega)
      obtain ⟨b, off, sp⟩ := y
      simp only at h1; subst h1
      rw [add_plain] at hx
      subst hx
      refine ⟨rfl, h2, fun i t hi => ?_⟩
      obtain ⟨h4, _⟩ := sub_get hi
      have := h3 (a + i) t h4
      rwa [Nat.add_mul, ← Nat.add_assoc] at this

variable {ob : Nat → Option Obj} {h : Heap}

theorem slAt_sub {x : Blk} {at0 cap a : Nat} {ad : Option Addr} (hs : SlAt x at0 cap ad) (ha : a ≤ cap) : SlAt x (at0 + a * x.sz) (cap - a) (if cap = a then ad else ad.map (·.add (a * x.sz))) := by
  obtain ⟨h1, h2⟩ := hs
  refine ⟨fun h => ?_, fun y hy => ?_⟩
  · split at h
    · omega
    · have := h1 (by simpa using h); omega
  · by_cases hc : cap = a
    · left; omega
    · rw [if_neg hc] at hy
      cases ad with
      | none => simp at hy
      | some z =>
        simp at hy
        rcases h2 z rfl with h | ⟨h3, rfl, h4⟩
        · omega
        · right
          rw [add_plain] at hy
          refine ⟨h3, hy.symm, ?_⟩
          have : at0 + a * x.sz + (cap - a) * x.sz = at0 + cap * x.sz := by rw [Nat.add_assoc, ← Nat.add_mul, Nat.add_sub_cancel' ha]
          omega

theorem sliceO_ok (hH : RelH ob ρ I w) (hm : ∀ id o, h.at? id = some o → ob id = some o) {t : TypeId} {lo hi : Option V} {vlo vhi : Option Value} {x : V} {vx : Value} (hlo : Rvo w I ρ lo vlo) (hhi : Rvo w I ρ hi vhi) (hx : Rv w I ρ x vx) {out : Out}
    (he : (sliceO P h t lo hi x).run = some out) : Gives P w I ρ (Instr.sliceAt t vx vlo vhi none) out := by
  unfold sliceO at he
  split at he
  · rename_i s
    split at he
    · rename_i a ka b kb ha hb hd
      obtain ⟨hc, he⟩ := node_fail he
      cases pureO_run he
      have e : vx = .string s := hx
      subst e
      simp only [decide_eq_true_eq] at hc
      exact Gives.c (run_slice_str hd (bound_ok hlo ha) (bound_ok hhi hb) hc) rfl
    · exact (fail_run he).elim
  · rename_i cs l
    split at he
    · rename_i a ka b kb e ha hb hd
      split at he
      · rename_i hsz
        obtain ⟨hc, he⟩ := node_fail he
        cases pureO_run he
        simp only [decide_eq_true_eq] at hc
        have hx' := hx
        obtain ⟨ad, cap, hv, hle, _⟩ := hx'
        have hle : l.length ≤ cap := hle
        have hv : vx = .slice ad l.length cap := hv
        subst hv
        refine Gives.c (run_slice_sl hd hsz.2 (bound_ok hlo ha) (bound_ok hhi hb) hc hle) ?_
        have := sub_data hx (a := a.toNat) (n := (b - a).toNat) (by omega)
        rw [hsz.1, show b.toNat - a.toNat = (b - a).toNat by omega]
        exact this
      · exact (fail_run he).elim
    · exact (fail_run he).elim
  · split at he
    · rename_i a ka b kb e ha hb hd
      split at he
      · rename_i hsz
        obtain ⟨hc, he⟩ := node_fail he
        cases pureO_run he
        simp only [decide_eq_true_eq] at hc
        obtain ⟨rfl, rfl⟩ := hc
        have e : vx = .slice none 0 0 := hx
        subst e
        exact Gives.c (run_slice_sl hd hsz (bound_ok hlo ha) (bound_ok hhi hb) (by omega) (Nat.le_refl _)) (by simp [Rc])
      · exact (fail_run he).elim
    · exact (fail_run he).elim
  · rename_i id sz kn
    split at he
    · rename_i cs l o hat
      split at he
      · rename_i a ka b kb e ha hb hd
        split at he
        · rename_i hsz
          obtain ⟨hc, he⟩ := test_fail he
          cases pureO_run he
          simp only [decide_eq_true_eq] at hc
          obtain ⟨y, hy, hro⟩ := hH.obj _ _ (hm _ _ hat)
          obtain ⟨z, ad, cap, hz, hzs, rfl, hle, hat'⟩ := hx
          have hzy : z = y := by rw [hz] at hy; exact Option.some.inj hy
          subst hzy
          obtain ⟨hlen, _⟩ := hro
          rw [← hlen] at hb hc
          refine Gives.c (run_slice_sl hd (by rw [hsz.2.1]; exact hsz.2.2) (bound_ok hlo ha) (bound_ok hhi hb) hc hle) ⟨z, _, _, hz, hzs, by rw [show b.toNat - a.toNat = (b - a).toNat by omega], by omega, by omega, ?_⟩
          have := slAt_sub hat' (a := a.toNat) (by omega)
          rw [hsz.2.1, ← hzs]
          rwa [Nat.zero_add] at this
        · exact (fail_run he).elim
      · exact (fail_run he).elim
    · exact (fail_run he).elim
  · rename_i id sz off len
    split at he
    · rename_i cs l o hat
      split at he
      · rename_i a ka b kb e ha hb hd
        split at he
        · rename_i hsz
          obtain ⟨hc, he⟩ := node_fail he
          cases pureO_run he
          simp only [decide_eq_true_eq] at hc
          obtain ⟨z, ad, cap, hz, hzs, rfl, hle, hle2, hat'⟩ := hx
          subst hzs
          refine Gives.c (run_slice_sl hd (by rw [hsz.2.1]; exact hsz.2.2) (bound_ok hlo ha) (bound_ok hhi hb) hc hle) ⟨z, _, _, hz, rfl, by rw [show b.toNat - a.toNat = (b - a).toNat by omega], by omega, by omega, ?_⟩
          have := slAt_sub hat' (a := a.toNat) (by omega)
          rw [hsz.2.1]
          rwa [← Nat.add_mul] at this
        · exact (fail_run he).elim
      · exact (fail_run he).elim
    · exact (fail_run he).elim
  · exact (fail_run he).elim

theorem Rents_length {agg : Bool} {cs : Shs} : {xs : List (ByteArray × Tup cs)} → {es : List MapEntry} → Rents w I agg cs xs es → xs.length = es.length
  | [], [], _ => rfl
  | [], _ :: _, h => h.elim
  | _ :: _, [], h => h.elim
  | _ :: _, _ :: _, h => by simp [Rents_length h.2.2]

theorem lenO_ok (hH : RelH ob ρ I w) (hm : ∀ id o, h.at? id = some o → ob id = some o) {t ty : TypeId} {ts : List TypeId} {x : V} {vx : Value} (hx : Rv w I ρ x vx) {out : Out} (he : (lenO P h t x).run = some out) :
    Gives P w I ρ (Builtin.len_ (t :: ts).toArray ty #[vx]) out := by
  unfold lenO at he
  split at he
  · rename_i s
    split at he
    · rename_i hd
      cases pureO_run he
      have e : vx = .string s := hx
      subst e
      exact Gives.c (v := .int .i64 (s.size : Nat)) (by simp [Builtin.len_, run_underlying hd, goInt]) rfl
    · exact (fail_run he).elim
  · split at he
    · rename_i hd
      cases pureO_run he
      have e : vx = .slice none 0 0 := hx
      subst e
      exact Gives.c (v := .int .i64 0) (by simp [Builtin.len_, run_underlying hd, goInt]) rfl
    · exact (fail_run he).elim
  · rename_i cs l
    split at he
    · rename_i hd
      cases pureO_run he
      obtain ⟨ad, cap, rfl, _⟩ := hx
      exact Gives.c (v := .int .i64 (l.length : Nat)) (by simp [Builtin.len_, run_underlying hd, goInt, asL]) rfl
    · exact (fail_run he).elim
  · rename_i id sz kn
    split at he
    · rename_i cs l o hd hat
      cases pureO_run he
      obtain ⟨y, hy, hro⟩ := hH.obj _ _ (hm _ _ hat)
      obtain ⟨z, ad, cap, hz, hzs, rfl, hle, hat'⟩ := hx
      have hzy : z = y := by rw [hz] at hy; exact Option.some.inj hy
      subst hzy
      obtain ⟨hlen, _⟩ := hro
      exact Gives.c (v := .int .i64 (z.len : Nat)) (by simp [Builtin.len_, run_underlying hd, goInt]) (by rw [hlen]; exact mkI_ok)
    · exact (fail_run he).elim
  · rename_i id sz off len
    split at he
    · rename_i hd
      cases pureO_run he
      obtain ⟨z, ad, cap, hz, hzs, rfl, hle, hat'⟩ := hx
      exact Gives.c (v := .int .i64 (len : Nat)) (by simp [Builtin.len_, run_underlying hd, goInt]) rfl
    · exact (fail_run he).elim
  · rename_i id
    split at he
    · rename_i ag cs es hd hat
      cases pureO_run he
      obtain ⟨y, hy, hro⟩ := hH.obj _ _ (hm _ _ hat)
      obtain ⟨z, hz, hreal, rfl⟩ := hx
      have hzy : z = y := by rw [hz] at hy; exact Option.some.inj hy
      subst hzy
      obtain ⟨_, ents, clock, h1, h2, _⟩ := hro
      have hlen : es.length = ents.size := by simpa using Rents_length h2
      refine Gives.c (v := .int .i64 (ents.size : Nat)) ?_ (by rw [← hlen]; rfl)
      simp [Builtin.len_, run_underlying hd, goInt, getObj, Sem.run, h1]
    · exact (fail_run he).elim
  · split at he
    · rename_i hd
      cases pureO_run he
      have e : vx = .map none := hx
      subst e
      exact Gives.c (v := .int .i64 0) (by simp [Builtin.len_, run_underlying hd, goInt]) rfl
    · exact (fail_run he).elim
  · split at he
    · rename_i n e hd
      cases pureO_run he
      obtain ⟨vs, rfl, _⟩ := hx
      exact Gives.c (v := .int .i64 (n : Nat)) (by simp [Builtin.len_, run_underlying hd, goInt]) rfl
    · exact (fail_run he).elim
  · exact (fail_run he).elim

theorem fold2_ok {f : Int → Int → Int} {g : Value → Value → Sem Value} (hg : ∀ k x y, (g (.int k x) (.int k y)).run P w = .ok (.int k (f x y)) w) : (x : V) → (ys : List V) → (vx : Value) → (vys : List Value) → Rv w I ρ x vx → Rvs w I ρ ys vys →
    ∀ {out}, (fold2 f x ys).run = some out → Gives P w I ρ (vys.foldlM g vx) out
  | .c x, [], vx, [], hx, _, out, he => by
    simp only [fold2] at he
    cases pureO_run he
    exact Gives.c (v := vx) (by simp) hx
  | .c x, .c y :: r, vx, vy :: vr, hx, ⟨hy, hr⟩, out, he => by
    simp only [fold2] at he
    split at he
    · rename_i k a ka k' b kb ha hb
      split at he
      · rename_i e; subst e
        have e1 := asI_ok hx ha
        have e2 := asI_ok hy hb
        subst e1 e2
        obtain ⟨v, V0, h1, h2, h3⟩ := fold2_ok hg (.c (mkI k (f a b) (ka && kb))) r (.int k (f a b)) vr mkI_ok hr he
        exact ⟨v, V0, by simp [List.foldlM_cons, hg, h1], h2, h3⟩
      · exact (fail_run he).elim
    · exact (fail_run he).elim
  | .c x, .agg _ :: r, _, _, _, _, _, he => by simp only [fold2] at he; exact (fail_run he).elim
  | .c x, .tup _ :: r, _, _, _, _, _, he => by simp only [fold2] at he; exact (fail_run he).elim
  | .agg _, _, _, _, _, _, _, he => by simp only [fold2] at he; exact (fail_run he).elim
  | .tup _, _, _, _, _, _, _, he => by simp only [fold2] at he; exact (fail_run he).elim
  | .c _, [], _, _ :: _, _, h, _, _ => h.elim
  | .c _, _ :: _, _, [], _, h, _, _ => h.elim
end
end Go.Eng
