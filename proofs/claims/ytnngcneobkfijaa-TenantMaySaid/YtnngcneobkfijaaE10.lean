/- The engine, part 10: operations that make blocks or write them. -/
import Derived.Test.YtnngcneobkfijaaE9
set_option linter.unusedSimpArgs false
set_option linter.unusedVariables false
namespace Go.Eng
section
variable {P : Program} {w : World} {I : Nat → Prop} {ρ : Rho}

theorem heap_setCells {b : Nat} {T : TypeId} {fz : Nat × Nat} : (vs : List Value) → (o : Nat) → (w : World) → (c : Array Value) → w.heap[b]? = some (.cells c T fz) → o + vs.length ≤ c.size →
    (w.setCells b o vs).heap[b]? = some (.cells (spliceV c.toList o vs).toArray T fz) ∧ (∀ b', b' ≠ b → (w.setCells b o vs).heap[b']? = w.heap[b']?) ∧ (w.setCells b o vs).heap.size = w.heap.size ∧ (w.setCells b o vs).os = w.os ∧ (w.setCells b o vs).tape = w.tape ∧ (w.setCells b o vs).output = w.output
  | [], o, w, c, h, _ => ⟨by simp [World.setCells, spliceV, h], fun _ _ => rfl, rfl, rfl, rfl, rfl⟩
  | v :: vs, o, w, c, h, hl => by
    simp only [List.length_cons] at hl
    have h1 : (w.setCell ⟨b, o, none⟩ v).heap[b]? = some (.cells (c.setIfInBounds o v) T fz) := by
      simp [World.setCell, Array.getElem?_modify, h]
    have h2 : ∀ b', b' ≠ b → (w.setCell ⟨b, o, none⟩ v).heap[b']? = w.heap[b']? := fun b' hb => by
      simp only [World.setCell, Array.getElem?_modify]
      rw [if_neg (fun e => hb e.symm)]
    obtain ⟨k1, k2, k3, k4, k5, k6⟩ := heap_setCells vs (o + 1) (w.setCell ⟨b, o, none⟩ v) _ h1 (by simp; omega)
    refine ⟨?_, fun b' hb => (k2 b' hb).trans (h2 b' hb), by rw [World.setCells, k3]; simp [World.setCell], by rw [World.setCells, k4]; rfl, by rw [World.setCells, k5]; rfl, by rw [World.setCells, k6]; rfl⟩
    rw [World.setCells, k1]
    congr 3
    unfold spliceV
    simp only [Array.toList_setIfInBounds, List.length_cons]
    apply List.ext_getElem?
    intro j
    simp only [List.getElem?_append, List.length_append, List.length_take, List.length_set, Array.length_toList, List.getElem?_take, List.getElem?_set, List.getElem?_drop]
    rw [Nat.min_eq_left (by omega), Nat.min_eq_left (by omega)]
    by_cases h1 : j < o
    · simp [h1, show j < o + 1 by omega, show j < o + 1 + vs.length by omega, show j < o + (vs.length + 1) by omega, show ¬ (o = j) by omega]
    · by_cases h2 : j = o
      · subst h2
        simp [show j < c.size by omega]
        omega
      · by_cases h3 : j < o + (vs.length + 1)
        · obtain ⟨k, rfl⟩ : ∃ k, j = o + 1 + k := ⟨j - (o + 1), by omega⟩
          simp [h1, h3, show o + 1 + k < o + 1 + vs.length by omega, show o + 1 + k - o = k + 1 by omega]
          intro hh; omega
        · simp [h1, show ¬ j < o + 1 by omega, show ¬ j < o + 1 + vs.length by omega, h3, show ¬ (o = o + 1 + vs.length + (j - (o + 1 + vs.length))) by omega]
          congr 1; omega

theorem run_store_block {b o : Nat} {T : TypeId} {fz : Nat × Nat} {c : Array Value} (h : w.heap[b]? = some (.cells c T fz)) (hz : Unfrozen fz c.size) {vs : List Value} (hl : o + vs.length ≤ c.size) (h1 : ∀ v ∈ vs, v.oneCell' = true) :
    (storeCells ⟨b, o, none⟩ vs).run P w = .ok () (w.setCells b o vs) := by
  have := run_storeCells_cells (P := P) b o vs 0 w (fun j hj => by
      simp only [World.cell?, h, Nat.add_zero]
      simp
      omega) (fun j hj => by
      simp only [World.frozen?, h]
      have := hz (o + j) (by omega)
      simpa [Nat.add_zero] using this) h1
  simpa using this

variable {n : Nat} {o : Oper} {f : Vw} {a : Act} {nid : Nat} {h : Heap}

theorem unfrozen_zero (n : Nat) : Unfrozen (0, 0) n := fun off _ h => by omega

/-- a new box -/
theorem box_goes (hR : RelF n f ρ I a w) (hd : ∀ d, o.dst = some d → d < n) (hn : ρ nid = none) {T : TypeId} {c : Array Value} {cs : List C} (hc : Rcs w I ρ cs c.toList)
    (hrun : (execOp a.eval o).run P w = .ok (.value (.pointer (some ⟨w.heap.size, 0, none⟩))) { w with heap := w.heap.push (.cells c T) }) : OpGoes P n o f ρ I a w nid { v := .c (.ref nid 0), new := [.box cs] } := by
  have hkeep : ∀ b, I b → (w.heap.push (.cells c T))[b]? = w.heap[b]? := fun b hb => by rw [Array.getElem?_push, if_neg (by have := hR.heap.immB b hb; omega)]
  have hst := alloc_step (w' := { w with heap := w.heap.push (.cells c T) }) (nid := nid) (o := .cells c T) (obj := .box cs) (x := ⟨w.heap.size, c.size, 0, 0, true⟩) hR.heap hn rfl rfl rfl rfl rfl rfl rfl
    ⟨rfl, c, T, (0, 0), by simp, rfl, unfrozen_zero _, hc.mono (fun _ h => h) hkeep fun id y hy => by
      by_cases e : id = nid
      · subst e; rw [hn] at hy; cases hy
      · rw [if_neg e]; exact hy⟩
  refine OpGoes.of (ρ' := fun i => if i = nid then some ⟨w.heap.size, c.size, 0, 0, true⟩ else ρ i) (I' := I) hR hd (.inl hrun) ?_ ?_ ?_ ?_
  · exact hst.1
  · intro id y hy
    by_cases e : id = nid
    · right; simp; omega
    · rw [if_neg e] at hy; exact .inl hy
  · exact hst.2
  · exact ⟨_, if_pos rfl, rfl, rfl⟩

/-- a new row, behind the shutting of what its elements name -/
theorem row_goes (hR : RelF n f ρ I a w) (hm : ∀ id o, h.at? id = some o → f.ob id = some o) (hd : ∀ d, o.dst = some d → d < n) (hn : ρ nid = none) (xs : List C) {w' : World} {T : TypeId} {fz : Nat × Nat} {c : Array Value} {cs : Shs} {l : List (Tup cs)} {cap : Nat} {kn : Bool}
    (hrun : (execOp a.eval o).run P w = .ok (.value (.slice (some ⟨w.heap.size, 0, none⟩) l.length cap)) w') (hheap : w'.heap = w.heap.push (.cells c T fz)) (hos : w'.os = w.os) (htape : w'.tape = w.tape) (hout : w'.output = w.output)
    (hz : Unfrozen fz c.size) (hcap : l.length ≤ cap) (hfit : cap * cs.len ≤ c.size) (hl : ∀ i t, l[i]? = some t → Rt w' (shutI I ρ (shutS h xs)) cs t w.heap.size (i * cs.len)) :
    OpGoes P n o f ρ I a w nid { v := .c (.rw nid cs.len kn), upd := shutIds h xs, new := [.row cs l .own] } := by
  obtain ⟨hE, hH⟩ := shut_step (h := h) xs hR.heap hm
  have hll : l.length * cs.len ≤ c.size := Nat.le_trans (Nat.mul_le_mul_right _ hcap) hfit
  have hst := alloc_step (w' := w') (nid := nid) (o := .cells c T fz) (obj := .row cs l .own) (x := ⟨w.heap.size, c.size, l.length, cs.len, true⟩) hH hn hheap hos htape hout rfl rfl rfl
    ⟨rfl, rfl, (fun h => by cases h), fun _ => ⟨c, T, fz, by rw [hheap]; simp, rfl, hll, by simpa using hl, fun _ => hz, (fun h => by cases h)⟩⟩
  refine OpGoes.of (ρ' := fun i => if i = nid then some ⟨w.heap.size, c.size, l.length, cs.len, true⟩ else ρ i) (I' := shutI I ρ (shutS h xs)) hR hd (.inl hrun) ?_ ?_ ?_ ?_
  · exact hE.trans hst.1
  · intro id y hy
    by_cases e : id = nid
    · right; simp; omega
    · rw [if_neg e] at hy; exact .inl hy
  · exact hst.2
  · exact ⟨_, _, cap, if_pos rfl, rfl, rfl, hcap, fun h => by (cases h), fun ad had => .inr ⟨rfl, (Option.some.inj had).symm, by simpa using hfit⟩⟩

theorem zeroCs_ok {t : TypeId} {z : List C} (hz : zeroCs P t = some z) : ∃ v : Value, (∀ w : World, (zeroValue t).run P w = .ok v w) ∧ z = v.cells.toList.map constC ∧ (∃ i, P.info? t = some i) ∧ (P.info? t).bind (·.zero) = some v := by
  unfold zeroCs at hz
  cases hi : P.info? t with
  | none => simp [hi] at hz
  | some i =>
    cases hzz : i.zero with
    | none => simp [hi, hzz] at hz
    | some v =>
      simp [hi, hzz] at hz
      exact ⟨v, fun w => by simp [zeroValue, typeInfo, hi, hzz], by simpa using hz.symm, ⟨i, rfl⟩, by simp [hzz]⟩
theorem zeroCs_rel {z : List C} {v : Value} (h : z = v.cells.toList.map constC) : Rcs w I ρ z v.cells.toList := by
  subst h; exact Rcs_const constC_ok _

theorem alloc_goes (hR : RelF n f ρ I a w) (hd : ∀ d, o.dst = some d → d < n) (hn : ρ nid = none) {t : TypeId} {z : List C} (hop : o.op = .alloc t) (hz : zeroCs P t = some z) : OpGoes P n o f ρ I a w nid { v := .c (.ref nid 0), new := [.box z] } := by
  obtain ⟨v, h1, h2, _⟩ := zeroCs_ok hz
  refine box_goes hR hd hn (T := t) (c := v.cells) (zeroCs_rel h2) ?_
  simp [execOp, hop, Instr.alloc, h1, newVar, newRow]

theorem mkbox_goes (hR : RelF n f ρ I a w) (hd : ∀ d, o.dst = some d → d < n) (hn : ρ nid = none) {t : TypeId} {x : Operand} {v : V} (hop : o.op = .box t x) (hv : Rv w I ρ v (a.eval x)) (hs : v.sane = true) : OpGoes P n o f ρ I a w nid { v := .c (.ref nid 0), new := [.box v.cells] } := by
  refine box_goes hR hd hn (T := t) (c := (a.eval x).cells) (sane_cells hs hv) ?_
  simp [execOp, hop, Instr.box, newVar, newRow]

theorem mapM_sizes {fs : Array Go.Field} (hf : fs.toList.all (fun f => (P.info? f.type).isSome) = true) : ((fs.mapM fun f => do pure (f.offset, ← sizeOf f.type) : Sem (Array (Nat × Nat)))).run P w = .ok (fs.map fun f => (f.offset, tsz P f.type)) w := by
  have key : ∀ (l : List Go.Field), (l.all fun f => (P.info? f.type).isSome) = true → ((l.mapM fun f => do pure (f.offset, ← sizeOf f.type) : Sem (List (Nat × Nat)))).run P w = .ok (l.map fun f => (f.offset, tsz P f.type)) w := by
    intro l
    induction l with
    | nil => intro _; simp
    | cons f l ih =>
      intro h
      simp only [List.all_cons, Bool.and_eq_true] at h
      obtain ⟨i, hi⟩ := Option.isSome_iff_exists.1 h.1
      simp only [List.mapM_cons, Sem.run_bind, run_sizeOf' hi, Result.andThen_ok, Sem.run_pure, ih h.2, List.map_cons]
  obtain ⟨l⟩ := fs
  have := key l (by simpa using hf)
  rw [Array.mapM_eq_mapM_toList]
  simp only [Sem.run_map, this, Result.andThen_ok, List.map_toArray]

theorem parts_of {val : Operand → V} (hval : ∀ x, Rv w I ρ (val x) (a.eval x)) : (ps : List (Nat × Operand)) → Rparts w I ρ (ps.map fun p => (p.1, val p.2)) (ps.map fun p => (p.1, a.eval p.2))
  | [] => trivial
  | p :: ps => ⟨rfl, hval _, parts_of hval ps⟩

theorem buildO_ok {val : Operand → V} (hval : ∀ x, Rv w I ρ (val x) (a.eval x)) {t : TypeId} {ps : Array (Nat × Operand)} {out : Out} (he : (buildO P t (ps.toList.map fun p => (p.1, val p.2))).run = some out) :
    Gives P w I ρ (Instr.build t (ps.map fun (i, x) => (i, a.eval x))) out := by
  have hp := parts_of hval ps.toList
  have hpt : (ps.map fun (i, x) => (i, a.eval x)).toList = ps.toList.map fun p => (p.1, a.eval p.2) := by simp
  unfold buildO at he
  split at he
  · rename_i fs z hd hz
    obtain ⟨v, h1, h2, _⟩ := zeroCs_ok hz
    split at he
    · rename_i hf
      split at he
      · rename_i cs hc
        cases leaf_run he
        obtain ⟨vs', k1, k2⟩ := fillC_ok hp (zeroCs_rel (w := w) (I := I) (ρ := ρ) h2) hc
        refine ⟨.agg vs', .agg cs, ?_, rfl, vs', rfl, k2⟩
        simp only [Instr.build, Sem.run_bind, h1, Result.andThen_ok, run_underlying hd, mapM_sizes hf, hpt]
        have e : (fun (i : Nat) => (fs.map fun f => (f.offset, tsz P f.type))[i]?) = fun i => (fs[i]?).map fun f => (f.offset, tsz P f.type) := by funext i; simp
        rw [e, k1]
        simp
      · exact (fail_run he).elim
    · exact (fail_run he).elim
  · rename_i m e z hd hz
    obtain ⟨v, h1, h2, _⟩ := zeroCs_ok hz
    split at he
    · rename_i hf
      obtain ⟨i, hi⟩ := Option.isSome_iff_exists.1 hf
      split at he
      · rename_i cs hc
        cases leaf_run he
        obtain ⟨vs', k1, k2⟩ := fillC_ok hp (zeroCs_rel (w := w) (I := I) (ρ := ρ) h2) hc
        refine ⟨.agg vs', .agg cs, ?_, rfl, vs', rfl, k2⟩
        simp only [Instr.build, Sem.run_bind, h1, Result.andThen_ok, run_underlying hd, run_sizeOf' hi, hpt, k1]
        simp
      · exact (fail_run he).elim
    · exact (fail_run he).elim
  · exact (fail_run he).elim

theorem range_rep {α : Type} [Inhabited α] (zs : List α) : (n : Nat) → (List.range (n * zs.length)).map (fun i => zs[i % zs.length]!) = (List.replicate n zs).flatten
  | 0 => by simp
  | n + 1 => by
    rw [Nat.add_mul, Nat.one_mul, Nat.add_comm, List.range_add, List.map_append, List.replicate_succ, List.flatten_cons]
    congr 1
    · apply List.ext_getElem?
      intro i
      by_cases hi : i < zs.length
      · simp [hi, Nat.mod_eq_of_lt hi]
      · simp [hi, List.getElem?_eq_none (Nat.le_of_not_lt hi)]
    · rw [List.map_map, ← range_rep zs n]
      apply List.map_congr_left
      intro i _
      simp

theorem replC_ok {z : List C} {zs : List Value} (h : Rcs w I ρ z zs) : (n : Nat) → Rcs w I ρ (replC n z) (List.replicate n zs).flatten
  | 0 => trivial
  | n + 1 => by
    simp only [replC, List.replicate_succ, List.flatten_cons]
    exact Rcs_append h (replC_ok h n)

theorem cells_of_push {w w' : World} {c : Array Value} {T : TypeId} {fz : Nat × Nat} (hheap : w'.heap = w.heap.push (.cells c T fz)) (j : Nat) (v : Value) (h : c.toList[j]? = some v) : w'.cell? ⟨w.heap.size, 0 + j, none⟩ = some v := by
  simp only [World.cell?, hheap, Nat.zero_add]
  simpa using h

theorem shut_mono {ob : Nat → Option Obj} (hH : RelH ob ρ I w) (hm : ∀ id o, h.at? id = some o → ob id = some o) {w' : World} {oo : Go.Obj} (hheap : w'.heap = w.heap.push oo) (xs : List C) : ∀ b, shutI I ρ (shutS h xs) b → w'.heap[b]? = w.heap[b]? := by
  obtain ⟨_, hH'⟩ := shut_step (h := h) xs hH hm
  intro b hb
  have := hH'.immB b hb
  rw [hheap, Array.getElem?_push, if_neg (by omega)]

theorem buildSlice_goes (hR : RelF n f ρ I a w) (hm : ∀ id o, h.at? id = some o → f.ob id = some o) (hd : ∀ d, o.dst = some d → d < n) (hn : ρ nid = none) {val : Operand → V} (hval : ∀ x, Rv w I ρ (val x) (a.eval x)) {t : TypeId} {len : Nat} {ps : Array (Nat × Operand)}
    (hop : o.op = .buildSlice t len ps) {out : Out} (he : (buildSliceO P h nid t len (ps.toList.map fun p => (p.1, val p.2))).run = some out) : OpGoes P n o f ρ I a w nid out := by
  have hp := parts_of hval ps.toList
  have hpt : (ps.map fun (i, x) => (i, a.eval x)).toList = ps.toList.map fun p => (p.1, a.eval p.2) := by simp
  unfold buildSliceO at he
  split at he
  · rename_i e hu
    split at he
    · rename_i cs z hcs hz
      obtain ⟨v, h1, h2, ⟨i, hi⟩, _⟩ := zeroCs_ok hz
      split at he
      · rename_i hc
        split at he
        · rename_i xs hx
          split at he
          · rename_i l hl
            cases leaf_run he
            have hzl : v.cells.size = tsz P e := by rw [← hc.2.1, h2]; simp
            have hz0 : v.cells.toList.length = tsz P e := by simpa using hzl
            have harr : ((Array.range (len * tsz P e)).map (v.cells[· % v.cells.size]!)).toList = (List.replicate len v.cells.toList).flatten := by
              rw [← range_rep, hz0, ← hzl]
              simp [Array.toList_map, Array.toList_range]
              intro a _
              rw [getElem!_def]
              cases v.cells[a % v.cells.size]? <;> rfl
            obtain ⟨vs', k1, k2⟩ := fillC_ok hp (vs := (Array.range (len * tsz P e)).map (v.cells[· % v.cells.size]!)) (by rw [harr]; exact replC_ok (zeroCs_rel (w := w) (I := I) (ρ := ρ) h2) len) hx
            have hvl := Rcs_length k2
            have hsz : vs'.size = len * cs.len := by
              have : ∀ (qs : List (Nat × Value)) (c c' : Array Value), Instr.fill (fun i => some (i * tsz P e, tsz P e)) c qs = some c' → c'.size = c.size := by
                intro qs
                induction qs with
                | nil => intro c c' h; simp [Instr.fill] at h; rw [h]
                | cons q qs ih =>
                  intro c c' h
                  simp only [Instr.fill] at h
                  split at h
                  · cases h
                  · have hs := ih _ _ h
                    rw [hs]
                    have : ∀ (l : List (Value × Nat)) (off : Nat) (c : Array Value), (l.foldl (fun cs (c : Value × Nat) => cs.setIfInBounds (off + c.2) c.1) c).size = c.size := by
                      intro l
                      induction l with
                      | nil => intro _ _; rfl
                      | cons x l ih => intro off c; simp [ih]
                    rw [← Array.foldl_toList]
                    exact this _ _ _
              rw [this _ _ _ k1, hc.1]
              simp
            let w' : World := { w with heap := w.heap.push (.cells vs' e) }
            have hrun : (execOp a.eval o).run P w = .ok (.value (.slice (some ⟨w.heap.size, 0, none⟩) len len)) w' := by
              have h24 : ¬ (16777216 < len * tsz P e) := by have := hc.2.2.2; simp only [Nat.reducePow] at this; omega
              simp only [execOp, hop, Sem.run_bind]
              have : (Instr.buildSlice t len (ps.map fun (i, x) => (i, a.eval x))).run P w = .ok (.slice (some ⟨w.heap.size, 0, none⟩) len len) w' := by
                unfold Instr.buildSlice
                rw [hpt]
                by_cases h0 : len * tsz P e = 0
                · rw [h0] at k1
                  simp only [Sem.run_bind, run_underlying hu, Result.andThen_ok, run_sizeOf' hi, h0]
                  have k1' : Instr.fill (fun i => some (i * tsz P e, tsz P e)) ((Array.range 0).map fun x => (#[] : Array Value)[x % (#[] : Array Value).size]!) (ps.toList.map fun p => (p.1, a.eval p.2)) = some vs' := by
                    rw [← k1, show Array.range 0 = #[] from rfl, Array.map_empty, Array.map_empty]
                  simp only [show ¬ (0 > 2 ^ 24) by omega, if_false, if_true, Sem.run_pure, Result.andThen_ok, Sem.run_bind, k1']
                  rfl
                · simp only [Sem.run_bind, run_underlying hu, Result.andThen_ok, run_sizeOf' hi, show ¬ (len * tsz P e > 2 ^ 24) by simp only [Nat.reducePow]; omega, h0, if_false, h1, Sem.run_pure, k1]
                  rfl
              rw [this]; rfl
            have hrw := Rcs.mono (w' := w') (fun _ h => h) (shut_mono hR.heap hm (w' := w') rfl xs) (fun _ _ h => h) (conv_all (h := h) xs hR.heap hm (fun c h => h) k2)
            obtain ⟨m1, m2⟩ := tupsC_ok hl hrw (b := w.heap.size) (off := 0) (fun j v hj => cells_of_push (w' := w') rfl j v hj)
            rw [← m1] at hrun
            have := row_goes (cs := cs) hR hm hd hn xs (kn := true) hrun rfl rfl rfl rfl (unfrozen_zero _) (Nat.le_refl _) (by rw [m1, hsz]; exact Nat.le_refl _) (fun i t hi => by have := m2 i t hi; rwa [Nat.zero_add] at this)
            rwa [← hc.1]
          · exact (fail_run he).elim
        · exact (fail_run he).elim
      · exact (fail_run he).elim
    · exact (fail_run he).elim
  · exact (fail_run he).elim
end
end Go.Eng
