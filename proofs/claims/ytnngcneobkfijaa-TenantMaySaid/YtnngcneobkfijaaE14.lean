/- The engine, part 14: conversions, make, and what turns a map. -/
import Derived.Test.YtnngcneobkfijaaE13
import Derived.Laws.BytesString
set_option linter.unusedSimpArgs false
set_option linter.unusedVariables false
namespace Go.Eng
section
variable {P : Program} {w : World} {I : Nat → Prop} {ρ : Rho} {ob : Nat → Option Obj} {h : Heap}

theorem pushes : (ns : List Int) → (s : ByteArray) → ns.foldl (fun r n => r.push (UInt8.ofNat n.toNat)) s = ⟨s.data ++ (ns.map fun n => UInt8.ofNat n.toNat).toArray⟩
  | [], s => by simp
  | n :: ns, s => by
    rw [List.foldl_cons, pushes ns]
    congr 1
    simp [ByteArray.push]

theorem bytes_of {l : List (Tup (.cons (.int .u8) .nil))} : (l.map fun t => (t.1 : Int)).foldl (fun r n => r.push (UInt8.ofNat n.toNat)) ByteArray.empty = bytesOf l := by
  rw [pushes]
  unfold bytesOf
  congr 1
  simp only [ByteArray.empty, ByteArray.emptyWithCapacity, List.map_map]
  apply Array.ext'
  simp only [Array.toList_append]
  exact (List.nil_append _).trans List.map_map

theorem convertO_ok (hH : RelH ob ρ I w) (hm : ∀ id o, h.at? id = some o → ob id = some o) {src dst : TypeId} {x : V} {vx : Value} (hx : Rv w I ρ x vx) {out : Out} (he : (convertO P h src dst x).run = some out) :
    Gives P w I ρ (convert src dst vx) out := by
  unfold convertO at he
  split at he
  · rename_i x
    split at he
    · rename_i k0 k hs hd
      split at he
      · rename_i ki n kn hi
        cases pureO_run he
        have e := asI_ok hx hi
        subst e
        exact Gives.c (v := .int k (k.wrap n)) (by simp [convert, run_underlying hs, run_underlying hd, Conv.intToInt]) mkI_ok
      · exact (fail_run he).elim
    · rename_i hs hd
      split at he
      · rename_i s
        cases pureO_run he
        have e : vx = .string s := hx
        subst e
        exact Gives.c (v := .string s) (by simp [convert, run_underlying hs, run_underlying hd]) rfl
      · exact (fail_run he).elim
    · rename_i e hs hd
      split at he
      · rename_i hu
        split at he
        · exact (fail_run he).elim
        · rename_i x hns
          split at he
          · rename_i l hl
            cases pureO_run he
            obtain ⟨news, S⟩ := src_ok (P := P) hH hm hx hl
            have hnews := u8_cells l news S.rel
            have shape : ∃ ad n cap, vx = .slice ad n cap := by
              unfold srcOf at hl
              split at hl
              · exact ⟨none, 0, 0, hx⟩
              · obtain ⟨a, cap, h1, _⟩ := hx; exact ⟨_, _, _, h1⟩
              · obtain ⟨_, a, n, cap, h1, _⟩ := hx; exact ⟨_, _, _, h1⟩
              · obtain ⟨z, a, cap, _, _, h1, _⟩ := hx; exact ⟨_, _, _, h1⟩
              · obtain ⟨z, a, cap, _, _, h1, _⟩ := hx; exact ⟨_, _, _, h1⟩
              · rename_i s; exact absurd rfl (hns s)
              · cases hl
            obtain ⟨ad, n, cap, rfl⟩ := shape
            have hn : n = l.length := by
              have := S.lenOf w
              simpa [Builtin.lenOf] using this
            subst hn
            refine Gives.c (v := .string (bytesOf l)) ?_ rfl
            rw [run_convert_bytes_string w src dst e _ _ _ hs hu hd]
            cases ad with
            | none =>
              have h1 := S.first w fun _ _ => rfl
              simp [Builtin.firstCells] at h1
              have hl0 : l = [] := List.eq_nil_of_length_eq_zero (by
                have := S.len
                rw [h1] at this
                simpa [Shs.len] using this.symm)
              subst hl0
              rfl
            | some ad =>
              have h1 := S.first w fun _ _ => rfl
              rw [← bytes_of]
              refine run_bytesToString w ad l.length cap _ ?_
              rw [← hnews]
              simpa [Builtin.firstCells, Shs.len] using h1
          · exact (fail_run he).elim
      · exact (fail_run he).elim
    · exact (fail_run he).elim
  · exact (fail_run he).elim

variable {n : Nat} {o : Oper} {f : Vw} {a : Act} {nid : Nat}

theorem makeMap_goes (hR : RelF n f ρ I a w) (hd : ∀ d, o.dst = some d → d < n) (hn : ρ nid = none) {t : TypeId} (hop : o.op = .makeMap t none) (ag : Bool) (cs : Shs) : OpGoes P n o f ρ I a w nid { v := .c (.mp nid), new := [.map ag cs []] } := by
  have hst := alloc_step (w' := { w with heap := w.heap.push (.map #[] 0) }) (nid := nid) (o := .map #[] 0) (obj := .map ag cs []) (x := ⟨w.heap.size, 0, 0, 0, true⟩) hR.heap hn rfl rfl rfl rfl rfl rfl rfl
    ⟨rfl, #[], 0, by simp, trivial, by simp, by simp⟩
  refine OpGoes.of (ρ' := fun i => if i = nid then some ⟨w.heap.size, 0, 0, 0, true⟩ else ρ i) (I' := I) (w' := { w with heap := w.heap.push (.map #[] 0) }) (cv := .map (some w.heap.size)) hR hd (.inl ?_) hst.1 ?_ hst.2 ⟨_, if_pos rfl, rfl, rfl⟩
  · simp only [execOp, hop, Option.map_none, Sem.run_bind]
    rfl
  · intro id y hy
    by_cases e : id = nid
    · right; simp; omega
    · rw [if_neg e] at hy; exact .inl hy

theorem flatT_zero {cs : Shs} {zs : List Value} (hz : Rcs w I ρ (cellsT cs (dTup cs)) zs) : (m : Nat) → Rcs w I ρ (flatT cs (List.replicate m (dTup cs))) (List.replicate m zs).flatten
  | 0 => trivial
  | m + 1 => by
    simp only [List.replicate_succ, List.flatten_cons]
    exact Rcs_app hz (flatT_zero hz m)

theorem makeSlice_goes (hR : RelF n f ρ I a w) (hm : ∀ id o, h.at? id = some o → f.ob id = some o) (hd : ∀ d, o.dst = some d → d < n) (hn : ρ nid = none) {t : TypeId} {x y : Operand} {vx vy : V} (hx : Rv w I ρ vx (a.eval x)) (hy : Rv w I ρ vy (a.eval y))
    (hop : o.op = .makeSlice t x y) {out : Out} (he : (makeSliceO P nid t vx vy).run = some out) : OpGoes P n o f ρ I a w nid out := by
  unfold makeSliceO at he
  split at he
  · rename_i cx cy
    split at he
    · rename_i e k1 l kl k2 m km hu hi1 hi2
      have e1 := asI_ok hx hi1
      have e2 := asI_ok hy hi2
      split at he
      · rename_i cs z hcs hz
        split at he
        · rename_i hc
          obtain ⟨hcl, hzo, hsz⟩ := hc
          obtain ⟨hb, he⟩ := test_fail he
          cases leaf_run he
          simp only [decide_eq_true_eq] at hb
          obtain ⟨b1, b2, b3, b4⟩ := hb
          obtain ⟨v, h1, h2, ⟨i, hi⟩, _⟩ := zeroCs_ok hz
          have hz0 := zeroOk_rel (ρ' := ρ) hzo (zeroCs_rel (w := w) (I := I) (ρ := ρ) h2)
          have hzl : v.cells.size = cs.len := by
            have := Rcs_length hz0
            rw [cellsT_length] at this
            simpa using this.symm
          obtain ⟨N, rfl⟩ := Int.eq_ofNat_of_zero_le b1
          obtain ⟨M, rfl⟩ := Int.eq_ofNat_of_zero_le (show (0 : Int) ≤ m by omega)
          have hNM : N ≤ M := by omega
          let c : Array Value := (Array.range (M * tsz P e)).map (v.cells[· % v.cells.size]!)
          have harr : c.toList = (List.replicate M v.cells.toList).flatten := by
            rw [← range_rep, Array.length_toList, hzl]
            simp [c, Array.toList_map, Array.toList_range, hcl, hzl]
            intro a _
            rw [getElem!_def]
            cases v.cells[a % cs.len]? <;> rfl
          let w' : World := { w with heap := w.heap.push (.cells c e) }
          have hbi : tbytes P e = i.bytes := by simp [tbytes, hi]
          rw [hbi] at b3
          have hrun : (execOp a.eval o).run P w = .ok (.value (.slice (some ⟨w.heap.size, 0, none⟩) N M)) w' := by
            simp only [execOp, hop, Sem.run_bind, e1, e2]
            have : (Instr.makeSlice t (.int k1 N) (.int k2 M)).run P w = .ok (.slice (some ⟨w.heap.size, 0, none⟩) N M) w' := by
              unfold Instr.makeSlice
              have w1 : IntKind.i64.wrap (N : Int) = N := IntWalk.i64_in _ ⟨by omega, by omega⟩
              have w2 : IntKind.i64.wrap (M : Int) = M := IntWalk.i64_in _ ⟨by omega, by omega⟩
              have hti : (typeInfo e).run P w = .ok i w := run_typeInfo' hi
              have q1 : ¬ ((M : Int) < 0) := by omega
              have q2 : ¬ ((i.bytes : Int) * M > 2 ^ 48) := by
                rw [Int.mul_comm]
                simp only [Int.reducePow]
                omega
              have q3 : ¬ ((N : Int) < 0) := by omega
              have q4 : ¬ ((N : Int) > M) := by omega
              simp only [Sem.run_bind, run_underlying hu, Result.andThen_ok, asInt, asIntOf, Sem.run_pure, hti, w1, w2, q1, q2, q3, q4, decide_false, Bool.or_false, Bool.false_eq_true, if_false, run_askRoom, run_sizeOf' hi, Int.toNat_natCast]
              by_cases hM : M * tsz P e = 0
              · have hcz : c = #[] := by simp [c, hM]
                have hM0 : M = 0 := by
                  rcases Nat.mul_eq_zero.1 hM with h | h
                  · exact h
                  · exact absurd h hsz
                subst hM0
                simp only [hM, if_true, Sem.run_pure, Result.andThen_ok]
                simp [newRow, w', hcz, show Array.range 0 = #[] from rfl]
              · simp only [hM, if_false, Sem.run_bind, h1, Result.andThen_ok, Sem.run_pure]
                rfl
            rw [this]; rfl
          have hfl : c.size = M * cs.len := by simp [c, hcl]
          have hrep : ∀ q, ((List.replicate q (dTup cs)).length : Nat) = q := fun q => List.length_replicate
          have hk : ∀ b, I b → w'.heap[b]? = w.heap[b]? := fun b hb => by
            show (w.heap.push _)[b]? = _
            rw [Array.getElem?_push, if_neg (by have := hR.heap.immB b hb; omega)]
          have hrows := cells_rows (ρ := ρ) (b := w.heap.size) (List.replicate M (dTup cs)) 0 c.toList (by
            rw [harr]
            exact (flatT_zero hz0 M).mono (w' := w') (fun _ h => h) hk (fun _ _ h => h)) (fun j v hj => cells_of_push (w' := w') rfl j v hj)
          have hrun' : (execOp a.eval o).run P w = .ok (.value (.slice (some ⟨w.heap.size, 0, none⟩) (List.replicate N (dTup cs)).length M)) w' := by rw [hrep]; exact hrun
          have := grow_goes (cs := cs) (l := List.replicate N (dTup cs)) (kn := kl) (upd := []) hR hd hn (fun i o h => h) hrun' rfl rfl rfl rfl (by rw [hrep]; exact hNM) (by rw [hfl]; exact Nat.le_refl _) (by
            intro i t hi
            have hi' : (List.replicate M (dTup cs))[i]? = some t := by
              rw [List.getElem?_replicate] at hi ⊢
              split at hi
              · rw [if_pos (by omega)]; exact hi
              · cases hi
            have := hrows i t hi'
            rwa [Nat.zero_add] at this)
          rw [← hcl]
          simpa using this
        · exact (fail_run he).elim
      · exact (fail_run he).elim
    · exact (fail_run he).elim
  · exact (fail_run he).elim

/- what turns a map -/
theorem map_not_shut {cells : List C} {id : Nat} {ag : Bool} {cs : Shs} {es : List (ByteArray × Tup cs)} (hat : h.at? id = some (.map ag cs es)) : ¬ shutS h cells id := by
  rintro ⟨_, a, l, hrow⟩
  rw [hat] at hrow
  cases hrow

theorem map_goes (hR : RelF n f ρ I a w) (hm : ∀ id o, h.at? id = some o → f.ob id = some o) (hd : ∀ d, o.dst = some d → d < n) (cells : List C) {id : Nat} {ag : Bool} {cs : Shs} {es es' : List (ByteArray × Tup cs)} (hat : h.at? id = some (.map ag cs es)) {z : Blk} (hz : ρ id = some z) (hreal : z.real = true)
    {ents' : Array MapEntry} {clock' : Nat} {cv : Value} {v : V} (hv : v = .c .undef ∧ cv = Go.undef ∨ v = .tup [] ∧ cv = .tuple #[])
    (hrun : (execOp a.eval o).run P w = .ok (.value cv) { w with heap := w.heap.setIfInBounds z.b (.map ents' clock') } ∨ ((execOp a.eval o).run P w = .ok .skip { w with heap := w.heap.setIfInBounds z.b (.map ents' clock') } ∧ cv = Go.undef))
    (hents : Rents w (shutI I ρ (shutS h cells)) ag cs es' ents'.toList) (hborn : ∀ e ∈ ents'.toList, e.born < clock') (hpw : (ents'.toList.map (·.born)).Pairwise (· < ·)) :
    OpGoes P n o f ρ I a w nid { v := v, upd := shutIds h cells ++ [(id, some (.map ag cs es'))] } := by
  obtain ⟨hE, hH⟩ := shut_step (h := h) cells hR.heap hm
  have hob1 : updO f.ob (shutIds h cells) id = some (.map ag cs es) := by
    rw [(updO_shut cells f.ob id).1 (map_not_shut hat)]; exact hm _ _ hat
  have hlt := hR.heap.blk id z hz hreal
  have hkeep : ∀ b, shutI I ρ (shutS h cells) b → (w.heap.setIfInBounds z.b (.map ents' clock'))[b]? = w.heap[b]? := fun b hb => by
    have : b ≠ z.b := fun e => hH.actI id _ z hob1 rfl hz hreal (e ▸ hb)
    simp [Ne.symm this]
  have hw := write_step (w' := { w with heap := w.heap.setIfInBounds z.b (.map ents' clock') }) (o' := .map ag cs es') hH hob1 rfl hz hreal rfl rfl rfl rfl (by simp) (fun b hb => by simp [Ne.symm hb])
    ⟨hreal, ents', clock', by simp [hlt], hents.mono (fun _ h => h) hkeep, hborn, hpw⟩
  refine OpGoes.of (w' := { w with heap := w.heap.setIfInBounds z.b (.map ents' clock') }) (cv := cv) (ρ' := ρ) (I' := shutI I ρ (shutS h cells)) hR hd hrun ?_ (fun id x h => .inl h) ?_ ?_
  · simp only [newO_nil, updO_append, updO]; exact hE.trans hw.1
  · simp only [newO_nil, updO_append, updO]; exact hw.2
  · rcases hv with ⟨rfl, rfl⟩ | ⟨rfl, rfl⟩
    · rfl
    · exact ⟨_, rfl, trivial⟩

theorem mapUpdate_goes (hR : RelF n f ρ I a w) (hm : ∀ id o, h.at? id = some o → f.ob id = some o) (hd : ∀ d, o.dst = some d → d < n) {t : TypeId} {m k x : Operand} {vm vk vx : V} (hx0 : Rv w I ρ vm (a.eval m)) (hk0 : Rv w I ρ vk (a.eval k)) (hv0 : Rv w I ρ vx (a.eval x))
    (hop : o.op = .mapUpdate t m k x) {out : Out} (he : (mapUpdateO P h t vm vk vx).run = some out) : OpGoes P n o f ρ I a w nid out := by
  unfold mapUpdateO at he
  split at he
  · rename_i id key
    have ek : a.eval k = .string key := hk0
    obtain ⟨z, hz, hreal, hvm⟩ := hx0
    split at he
    · rename_i e ag cs es hk hat
      obtain ⟨kt, hu, hkt⟩ := keyed_ok hk
      split at he
      · rename_i hc
        obtain ⟨hsh, rfl, hcase⟩ := hc
        split at he
        · rename_i y hy
          split at he
          · rename_i hall
            cases leaf_run he
            obtain ⟨hE, hH⟩ := shut_step (h := h) vx.cells hR.heap hm
            obtain ⟨z', hz', hro⟩ := hR.heap.obj id _ (hm _ _ hat)
            rw [hz] at hz'; cases hz'
            obtain ⟨_, ents, clock, hb, hents, hborn, hpw⟩ := hro
            have hents1 : Rents w (shutI I ρ (shutS h vx.cells)) (aggT P e) cs es ents.toList := hents.mono (fun b hb => .inl hb) (fun _ _ => rfl)
            have hcells : Rcs w I ρ vx.cells (a.eval x).cells.toList := by
              cases vx with
              | c c =>
                simp only [fitsV, Bool.and_eq_true, Bool.not_eq_true'] at hcase
                exact sane_cells (x := .c c) hcase.2 hv0
              | agg cs => exact sane_cells (x := .agg cs) rfl hv0
              | tup vs => simp [fitsV] at hcase
            have hconv := conv_all (h := h) vx.cells hR.heap hm (fun c hc => hc) hcells
            have hval : Rtv w (shutI I ρ (shutS h vx.cells)) (aggT P e) cs y (a.eval x) := by
              have h0 := tupC_cells hy hconv (ρ' := fun _ => none)
              cases vx with
              | c c =>
                simp only [fitsV, Bool.and_eq_true, Bool.not_eq_true'] at hcase
                rw [hcase.1]
                have := leaf_one hcase.2 hv0
                have hcell : (a.eval x).cells = #[a.eval x] := by
                  cases hv : a.eval x <;> first | rfl | (rw [hv] at this; simp [Value.oneCell'] at this)
                rw [hcell] at h0
                exact h0
              | agg cs' =>
                have ha : aggT P e = true := hcase
                rw [ha]
                obtain ⟨vs, h1, h2⟩ := hv0
                rw [h1] at h0 ⊢
                exact ⟨vs, rfl, h0⟩
              | tup vs => simp [fitsV] at hcase
            rcases findNow_rents key es ents.toList 0 hents with ⟨m1, m2, m3, _⟩ | ⟨j, x', e', m1, m2, m3, m4, m5, m6, _, m8⟩
            · refine map_goes (ents' := ents.push { key := .string key, val := a.eval x, born := clock }) (clock' := clock + 1) hR hm hd vx.cells hat hz hreal (.inl ⟨rfl, rfl⟩) (.inr ⟨?_, rfl⟩) ?_ ?_ ?_
              · simp only [execOp, hop, Sem.run_bind, ek, hvm]
                simp [Instr.mapUpdate, run_underlying hu, MapKept.run_getObj_map hb, MapKept.run_checkKey (d := .string) hkt (k := .string key) trivial _ 9999, MapKept.run_findKey hkt m2, MapKept.run_setObj_map _ hb, Result.andThen]
              · rw [m3, Array.toList_push]
                exact Rents_app hents1 rfl hval
              · intro e'' he''
                rw [Array.toList_push] at he''
                rcases List.mem_append.1 he'' with h | h
                · exact Nat.lt_succ_of_lt (hborn _ h)
                · rw [List.mem_singleton.1 h]; exact Nat.lt_succ_self _
              · rw [Array.toList_push, List.map_append]
                refine List.pairwise_append.2 ⟨hpw, by simp, ?_⟩
                intro b hb' c hc'
                simp at hc'
                subst hc'
                obtain ⟨q, hq, rfl⟩ := List.mem_map.1 hb'
                exact hborn q hq
            · have hj : ents[j]? = some e' := by simpa using m3
              have hmod : (ents.modify j fun e => { e with key := .string key, val := a.eval x }).toList = ents.toList.set j { e' with key := .string key, val := a.eval x } := by
                rw [Array.toList_modify]
                apply List.ext_getElem?
                intro q
                rw [List.getElem?_modify, List.getElem?_set]
                by_cases hq : j = q
                · subst hq
                  have : j < ents.toList.length := (List.getElem?_eq_some_iff.1 m3).1
                  simp [m3, this]
                  have : j < ents.size := by simpa using this
                  simp [this, Option.some.inj (((Array.getElem?_eq_getElem this).symm.trans hj))]
                · simp [hq]
              have hkk : (Instr.keyThatStays (.string key) (.string key)).run P w = .ok (.string key) w := MapKept.run_keyThatStays (d := .string) (k := .string key) trivial
              refine map_goes (ents' := ents.modify j fun e => { e with key := .string key, val := a.eval x }) (clock' := clock) hR hm hd vx.cells hat hz hreal (.inl ⟨rfl, rfl⟩) (.inr ⟨?_, rfl⟩) ?_ ?_ ?_
              · simp only [execOp, hop, Sem.run_bind, ek, hvm]
                simp [Instr.mapUpdate, run_underlying hu, MapKept.run_getObj_map hb, MapKept.run_checkKey (d := .string) hkt (k := .string key) trivial _ 9999, MapKept.run_findKey hkt m2, hj, m4, hkk, MapKept.run_setObj_map _ hb, Result.andThen]
              · rw [m6, hmod]
                exact Rents_set hents1 rfl hval j
              · intro e'' he''
                rw [hmod] at he''
                rcases List.mem_or_eq_of_mem_set he'' with h | h
                · exact hborn _ h
                · subst h; exact hborn e' (List.mem_of_getElem? m3)
              · rw [hmod, List.map_set]
                have : (ents.toList.map (·.born)).set j e'.born = ents.toList.map (·.born) := by
                  apply List.ext_getElem?
                  intro q
                  rw [List.getElem?_set]
                  by_cases hq : j = q
                  · subst hq; simp [hj]
                    exact (Array.getElem?_eq_some_iff.1 hj).1
                  · simp [hq]
                simp only [this]
                exact hpw
          · exact (fail_run he).elim
        · exact (fail_run he).elim
      · exact (fail_run he).elim
    · exact (fail_run he).elim
  · exact (fail_run he).elim

theorem shutIds_nil : shutIds h [] = [] := rfl

theorem delete_goes (hR : RelF n f ρ I a w) (hm : ∀ id o, h.at? id = some o → f.ob id = some o) (hd : ∀ d, o.dst = some d → d < n) {c : Call} {vs : List V} (hvs : Rvs w I ρ vs (c.args.map a.eval).toList)
    (hop : o.op = .call c) (hc : c.callee = .builtin .delete) {out : Out} (he : (deleteO P h c.argTypes.toList vs).run = some out) : OpGoes P n o f ρ I a w nid out := by
  obtain ⟨consts, hex⟩ := exec_builtin (P := P) (w := w) (a := a) hop hc
  unfold deleteO at he
  split at he
  · rename_i _ _ t ts id key hts
    generalize hargs : c.args.map a.eval = args at *
    have : ∃ vm vk, args = #[vm, vk] ∧ Rc w I ρ (.mp id) vm ∧ Rc w I ρ (.str key) vk := by
      obtain ⟨l⟩ := args
      match l, hvs with
      | [vm, vk], ⟨h1, h2, _⟩ => exact ⟨vm, vk, rfl, h1, h2⟩
      | _ :: _ :: _ :: _, ⟨_, _, h3⟩ => exact h3.elim
      | [_], ⟨_, h2⟩ => exact h2.elim
    obtain ⟨vm, vk, rfl, ⟨z, hz, hreal, rfl⟩, hk0⟩ := this
    have ek : vk = .string key := hk0
    subst ek
    have htt : c.argTypes[0]? = some t := by
      rw [← Array.getElem?_toList, hts]; rfl
    split at he
    · rename_i e ag cs es hk hat
      obtain ⟨kt, hu, hkt⟩ := keyed_ok hk
      cases leaf_run he
      obtain ⟨z', hz', hro⟩ := hR.heap.obj id _ (hm _ _ hat)
      rw [hz] at hz'; cases hz'
      obtain ⟨_, ents, clock, hb, hents, hborn, hpw⟩ := hro
      have hents1 : Rents w (shutI I ρ (shutS h [])) ag cs es ents.toList := hents.mono (fun b hb => .inl hb) (fun _ _ => rfl)
      rcases findNow_rents key es ents.toList 0 hents with ⟨m1, m2, _, m4⟩ | ⟨j, x', e', m1, m2, m3, m4, m5, _, m7, m8⟩
      · refine map_goes (ents' := ents) (clock' := clock) (cv := .tuple #[]) hR hm hd [] hat hz hreal (.inr ⟨rfl, rfl⟩) (.inl ?_) ?_ hborn hpw
        · rw [hex]
          simp [builtin, hargs, Builtin.delete_, htt, run_underlying hu, MapKept.run_getObj_map hb, MapKept.run_checkKey (d := .string) hkt (k := .string key) trivial _ 9999, MapKept.run_findKey hkt m2, MapKept.run_setObj_map _ hb, Result.andThen]
        · rw [m4]; exact hents1
      · have hj : j < ents.size := by
          have := (List.getElem?_eq_some_iff.1 m3).1
          simpa using this
        have hera : (ents.eraseIdxIfInBounds j).toList = ents.toList.eraseIdx j := by
          unfold Array.eraseIdxIfInBounds
          rw [dif_pos hj, Array.toList_eraseIdx]
        refine map_goes (ents' := ents.eraseIdxIfInBounds j) (clock' := clock) (cv := .tuple #[]) hR hm hd [] hat hz hreal (.inr ⟨rfl, rfl⟩) (.inl ?_) ?_ ?_ ?_
        · rw [hex]
          simp [builtin, hargs, Builtin.delete_, htt, run_underlying hu, MapKept.run_getObj_map hb, MapKept.run_checkKey (d := .string) hkt (k := .string key) trivial _ 9999, MapKept.run_findKey hkt m2, MapKept.run_setObj_map _ hb, Result.andThen]
        · rw [m7, hera]; exact Rents_erase hents1 j
        · intro e'' he''
          rw [hera] at he''
          exact hborn _ ((List.eraseIdx_sublist _ _).subset he'')
        · rw [hera]
          exact hpw.sublist ((List.eraseIdx_sublist _ _).map _)
    · exact (fail_run he).elim
  · exact (fail_run he).elim
end
end Go.Eng
