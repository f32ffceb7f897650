/- The engine, part 12: append, make, conversions. -/
import Derived.Test.YtnngcneobkfijaaE11
set_option linter.unusedSimpArgs false
set_option linter.unusedVariables false
namespace Go.Eng
section
variable {P : Program} {w : World} {I : Nat → Prop} {ρ : Rho} {ob : Nat → Option Obj} {h : Heap}

/-- What a source of an append is: so many elements, these cells, in whatever later world. -/
structure Src (P : Program) (w : World) (I : Nat → Prop) (ρ : Rho) (cs : Shs) (x : List (Tup cs)) (v : Value) (news : List Value) : Prop where
  len : news.length = x.length * cs.len
  rel : Rcs w I ρ (flatT cs x) news
  lenOf : ∀ w2 : World, (Builtin.lenOf v).run P w2 = .ok x.length w2
  first : ∀ w2 : World, (∀ b, b < w.heap.size → w2.heap[b]? = w.heap[b]?) → (Builtin.firstCells cs.len x.length v).run P w2 = .ok news.toArray w2

theorem first_cells {cs : Shs} {n : Nat} {ad : Addr} {cap : Nat} {news : List Value} {w2 : World} (hl : news.length = n * cs.len) (hc : ∀ j v, news[j]? = some v → w2.cell? (ad.add j) = some v) :
    (Builtin.firstCells cs.len n (.slice (some ad) n cap)).run P w2 = .ok news.toArray w2 := by
  have := run_loadCells_list (P := P) w2 ad news hc
  rw [hl] at this
  simpa [Builtin.firstCells] using this

theorem src_data {cs : Shs} {x : List (Tup cs)} {v : Value} (hx : Rd w I (.lst cs) x v) (hI : ∀ b, I b → b < w.heap.size) : ∃ news, Src P w I ρ cs x v news := by
  obtain ⟨a, cap, hv, hle, hn, hs⟩ := hx
  have hv : v = .slice a x.length cap := hv
  subst hv
  by_cases h0 : x.length = 0
  · have hx0 : x = [] := List.eq_nil_of_length_eq_zero h0
    subst hx0
    refine ⟨[], by simp, trivial, fun w2 => by simp [Builtin.lenOf], fun w2 _ => ?_⟩
    cases a with
    | none => simp [Builtin.firstCells]
    | some ad => exact first_cells (by simp) (by simp)
  · cases a with
    | none => exact absurd (hn rfl) h0
    | some ad =>
      obtain ⟨h1, h2, h3⟩ := hs ad rfl h0
      obtain ⟨b, off, sp⟩ := ad
      simp only at h1; subst h1
      obtain ⟨news, k1, k2, k3⟩ := rows_cells (ρ := ρ) x off h3
      refine ⟨news, k1, k3, fun w2 => by simp [Builtin.lenOf], fun w2 hw2 => first_cells k1 fun j v hj => ?_⟩
      rw [add_plain, cell?_of_heap (hw2 b (hI b h2))]
      exact k2 j v hj

theorem src_row {cs : Shs} {l : List (Tup cs)} {o : Own} {x : Blk} (hro : Ro w I ρ x (.row cs l o)) (hb : x.real = true → x.b < w.heap.size) {ad : Option Addr} {cap off n : Nat} (hat : SlAt x (off * x.sz) cap ad) (hn : off + n ≤ l.length) (hcap : n ≤ cap) :
    ∃ news, Src P w I ρ cs ((l.drop off).take n) (.slice ad n cap) news := by
  have hdata := row_data (I' := fun b => I b ∨ (x.real = true ∧ b = x.b)) (hro.mono (fun b h => .inl h) (fun _ _ => rfl) (fun _ _ h => h) (fun _ => rfl)) (fun hr => .inr ⟨hr, rfl⟩) hat hn hcap
  obtain ⟨k1, k2, k3, k4⟩ := hro
  have hl : ((l.drop off).take n).length = n := by simp; omega
  by_cases h0 : n = 0
  · subst h0
    have e0 : (l.drop off).take 0 = [] := rfl
    rw [e0]
    refine ⟨[], by simp, trivial, fun w2 => rfl, fun w2 _ => ?_⟩
    cases ad with
    | none => rfl
    | some ad => exact first_cells (by simp) (by simp)
  · cases ad with
    | none => have := hat.1 rfl; omega
    | some ad =>
      rcases hat.2 ad rfl with h | ⟨h1, rfl, h3⟩
      · omega
      · obtain ⟨c, T, fz, m1, m2, m3, m4, _⟩ := k4 h1
        have hrt : ∀ i t, ((l.drop off).take n)[i]? = some t → Rt w I cs t x.b (off * x.sz + i * cs.len) := by
          intro i t hi
          have := m4 (off + i) t (sub_get hi).1
          rw [k2]
          rwa [Nat.add_mul] at this
        obtain ⟨news, n1, n2, n3⟩ := rows_cells (ρ := ρ) _ _ hrt
        rw [hl] at n1
        refine ⟨news, by rw [hl]; exact n1, n3, (fun w2 => by rw [hl]; rfl), fun w2 hw2 => ?_⟩
        rw [hl]
        refine first_cells n1 fun j v hj => ?_
        rw [add_plain, cell?_of_heap (hw2 _ (hb h1))]
        exact n2 j v hj

theorem ofBytes_length (s : ByteArray) : (ofBytes s).length = s.size := by unfold ofBytes; exact (List.length_map _).trans Array.length_toList

theorem src_ok (hH : RelH ob ρ I w) (hm : ∀ id o, h.at? id = some o → ob id = some o) {cs : Shs} {s : C} {v : Value} (hs : Rc w I ρ s v) {x : List (Tup cs)} (hx : srcOf h cs s = some x) : ∃ news, Src P w I ρ cs x v news := by
  unfold srcOf at hx
  split at hx
  · cases hx
    have e : v = .slice none 0 0 := hs
    subst e
    exact ⟨[], by simp, trivial, fun w2 => by simp [Builtin.lenOf], fun w2 _ => by simp [Builtin.firstCells]⟩
  · obtain ⟨e, h2⟩ := castL_ok hx
    subst e
    subst h2
    exact src_data hs hH.immB
  · obtain ⟨e, h2⟩ := castL_ok hx
    subst e
    subst h2
    exact src_data hs.1 hH.immB
  · rename_i id sz k
    split at hx
    · rename_i cs' l o hat
      obtain ⟨e, h2⟩ := castL_ok hx
      subst e
      subst h2
      obtain ⟨z, a, cap, h1, h2, rfl, h4, h5⟩ := hs
      obtain ⟨y, hy, hro⟩ := hH.obj id _ (hm _ _ hat)
      rw [h1] at hy; cases hy
      have hlen := hro.1
      have := src_row (P := P) (off := 0) (n := z.len) hro (fun hr => hH.blk id z h1 hr) (by simpa using h5) (by omega) h4
      rwa [List.drop_zero, List.take_of_length_le (by omega)] at this
    · cases hx
  · rename_i id sz off len
    split at hx
    · rename_i cs' l o hat
      cases hc : castL cs' cs l with
      | none => simp [hc] at hx
      | some l' =>
        obtain ⟨e, h2⟩ := castL_ok hc
        subst e
        subst h2
        simp [hc] at hx
        subst hx
        obtain ⟨z, a, cap, h1, h2, rfl, h4, h5, h6⟩ := hs
        obtain ⟨y, hy, hro⟩ := hH.obj id _ (hm _ _ hat)
        rw [h1] at hy; cases hy
        have hlen := hro.1
        exact src_row (P := P) hro (fun hr => hH.blk id z h1 hr) (by rw [h2]; exact h6) (by omega) h4
    · cases hx
  · rename_i s
    obtain ⟨e, h2⟩ := castL_ok hx
    subst e
    subst h2
    have e : v = .string s := hs
    subst e
    refine ⟨s.data.toList.map fun b => .int .u8 b.toNat, ?_, ?_, fun w2 => ?_, fun w2 _ => ?_⟩
    · show _ = List.length (ofBytes s) * _
      rw [ofBytes_length, List.length_map, Array.length_toList]
      simp [Shs.len]
    · show Rcs w I ρ (flatT _ (ofBytes s)) _
      unfold ofBytes flatT
      generalize s.data.toList = bs
      induction bs with
      | nil => trivial
      | cons b bs ih => exact ⟨rfl, ih⟩
    · show _ = Result.ok (List.length (ofBytes s)) w2
      rw [ofBytes_length]; rfl
    · simp only [Builtin.firstCells, Sem.run_pure]
      congr 1
      have : s.extract 0 (List.length (ofBytes s)) = s := by rw [ofBytes_length]; exact ByteArray.extract_zero_size
      show Array.map _ (s.extract 0 (List.length (ofBytes s))).data = _
      rw [this]
      apply Array.ext'
      simp
  · cases hx

variable {n : Nat} {o : Oper} {f : Vw} {a : Act} {nid : Nat}

theorem grownCap_ge' (w : World) (need old : Nat) (e : TypeId) : need ≤ grownCap w need old e := grownCap_ge w need old e

theorem run_append_more {t u e ty : TypeId} {d : TypeDesc} (ht : P.underlying t = some (.slice e)) (hu : P.underlying u = some d) (hni : ∀ k, d ≠ .int k) {i : TypeInfo} (hi : P.info? e = some i) {z : Value} (hz : ∀ w : World, (zeroValue e).run P w = .ok z w)
    {base : Option Addr} {sLen sCap m : Nat} {v : Value} {olds news : List Value} (hl : ∀ w2 : World, (Builtin.lenOf v).run P w2 = .ok m w2) (hf : (Builtin.firstCells (tsz P e) m v).run P w.drew = .ok news.toArray w.drew)
    (ho : (Builtin.firstCells (tsz P e) sLen (.slice base sLen sCap)).run P w.drew = .ok olds.toArray w.drew) (hg : sCap < sLen + m) (hb0 : tbytes P e ≠ 0) (hb : (sLen + m) * tbytes P e ≤ 140737488355328) :
    (Builtin.append_ #[t, u] ty #[.slice base sLen sCap, v]).run P w = .ok (.slice (some ⟨w.heap.size, 0, none⟩) (sLen + m) (grownCap w (sLen + m) sCap e))
      (w.drew.alloc (.cells ((olds ++ news).toArray ++ Builtin.zeroCells z.cells (grownCap w (sLen + m) sCap e - (sLen + m))) e)) := by
  have hn : ¬ (sLen + m ≤ sCap) := by omega
  have hbi : tbytes P e = i.bytes := by simp [tbytes, hi]
  rw [hbi] at hb hb0
  have hsm : sLen + m ≤ 140737488355328 := Nat.le_trans (Nat.le_mul_of_pos_right _ (by omega)) hb
  have h63 : ¬ (((sLen + m : Nat) : Int) > IntKind.i64.max ∧ (False ∨ i.bytes = 0)) := fun h => by rcases h.2 with h | h; exact h.elim; exact hb0 h
  have h48 : ¬ (Builtin.nextslicecap (sLen + m) sCap * i.bytes > 2 ^ 48) := by
    have := growslice_fits hg hb
    simp only [Nat.reducePow]
    omega
  have hzf : (match d with | .int _ => true | _ => false) = false := by
    cases d <;> first | rfl | exact absurd rfl (hni _)
  have hti : ∀ w2 : World, (typeInfo e).run P w2 = .ok i w2 := fun w2 => run_typeInfo' hi
  have hsi : ∀ w2 : World, (sizeOf e).run P w2 = .ok (tsz P e) w2 := fun w2 => run_sizeOf' hi
  have hbn : ¬ (i.bytes = 0) := hb0
  simp [Builtin.append_, run_underlying ht, run_underlying hu, hsi, hti, hl, hn, hf, ho, hz, newRow, grownCap, Question.forced, hbn]
  rw [if_neg (by simpa using h48)]
  simp [← Array.append_assoc]

theorem run_append_room' {t u e ty : TypeId} {d : TypeDesc} (ht : P.underlying t = some (.slice e)) (hu : P.underlying u = some d) (hni : ∀ k, d ≠ .int k) {i : TypeInfo} (hi : P.info? e = some i)
    {ad : Addr} {sLen sCap m : Nat} {v : Value} {news : List Value} (hl : ∀ w2 : World, (Builtin.lenOf v).run P w2 = .ok m w2) (hf : (Builtin.firstCells (tsz P e) m v).run P w = .ok news.toArray w)
    (hg : sLen + m ≤ sCap) {w' : World} (hst : (storeCells (ad.add (sLen * tsz P e)) news).run P w = .ok () w') :
    (Builtin.append_ #[t, u] ty #[.slice (some ad) sLen sCap, v]).run P w = .ok (.slice (some ad) (sLen + m) sCap) w' := by
  have hsi : ∀ w2 : World, (sizeOf e).run P w2 = .ok (tsz P e) w2 := fun w2 => run_sizeOf' hi
  simp [Builtin.append_, run_underlying ht, run_underlying hu, hsi, hl, hg, hf, hst]
theorem run_append_none {t u e ty : TypeId} {d : TypeDesc} (ht : P.underlying t = some (.slice e)) (hu : P.underlying u = some d) (hni : ∀ k, d ≠ .int k) {i : TypeInfo} (hi : P.info? e = some i)
    {v : Value} {news : List Value} (hl : ∀ w2 : World, (Builtin.lenOf v).run P w2 = .ok 0 w2) (hf : (Builtin.firstCells (tsz P e) 0 v).run P w = .ok news.toArray w) :
    (Builtin.append_ #[t, u] ty #[.slice none 0 0, v]).run P w = .ok (.slice none 0 0) w := by
  have hsi : ∀ w2 : World, (sizeOf e).run P w2 = .ok (tsz P e) w2 := fun w2 => run_sizeOf' hi
  simp [Builtin.append_, run_underlying ht, run_underlying hu, hsi, hl, hf]

theorem exec_builtin {c : Call} {b : Builtin} (hop : o.op = .call c) (hc : c.callee = .builtin b) : ∃ consts, (execOp a.eval o).run P w = (builtin b c.argTypes o.type consts (c.args.map a.eval)).run P w := by
  refine ⟨c.args.map fun | .const _ => true | _ => false, ?_⟩
  simp only [execOp, hop, resolve, hc, Sem.run_bind, Sem.run_pure, Result.andThen_ok, invoke]
  rfl

/-- an append that makes a new row, where a label goes -/
theorem grow_goes (hR : RelF n f ρ I a w) (hd : ∀ d, o.dst = some d → d < n) (hn : ρ nid = none) {upd : List (Nat × Option Obj)} (hu : ∀ i ob, updO f.ob upd i = some ob → f.ob i = some ob) {w' : World} {T : TypeId} {c : Array Value} {cs : Shs} {l : List (Tup cs)} {cap : Nat} {kn : Bool}
    (hrun : (execOp a.eval o).run P w = .ok (.value (.slice (some ⟨w.heap.size, 0, none⟩) l.length cap)) w') (hheap : w'.heap = w.heap.push (.cells c T)) (hos : w'.os = w.os) (htape : w'.tape = w.tape) (hout : w'.output = w.output)
    (hcap : l.length ≤ cap) (hfit : cap * cs.len ≤ c.size) (hl : ∀ i t, l[i]? = some t → Rt w' I cs t w.heap.size (i * cs.len)) :
    OpGoes P n o f ρ I a w nid { v := .c (.rw nid cs.len kn), upd := upd, new := [.row cs l .own] } := by
  have hH := hR.heap.sub hu
  have hll : l.length * cs.len ≤ c.size := Nat.le_trans (Nat.mul_le_mul_right _ hcap) hfit
  have hst := alloc_step (w' := w') (nid := nid) (o := .cells c T) (obj := .row cs l .own) (x := ⟨w.heap.size, c.size, l.length, cs.len, true⟩) hH hn hheap hos htape hout rfl rfl rfl
    ⟨rfl, rfl, (fun h => by cases h), fun _ => ⟨c, T, (0, 0), by rw [hheap]; simp, rfl, hll, by simpa using hl, fun _ => unfrozen_zero _, (fun h => by cases h)⟩⟩
  have hact : ∀ b, ActB (updO f.ob upd) ρ b → ActB f.ob ρ b := fun b ⟨i, ob, x, h1, h2⟩ => ⟨i, ob, x, hu i ob h1, h2⟩
  have hE : Ext f.ob ρ I w (updO f.ob upd) ρ I w := ⟨rfl, rfl, rfl, Nat.le_refl _, fun _ _ h => h, fun _ h => h, fun _ _ h => .inl h, fun b _ h => hact b h, fun _ _ _ => rfl⟩
  refine OpGoes.of (ρ' := fun i => if i = nid then some ⟨w.heap.size, c.size, l.length, cs.len, true⟩ else ρ i) (I' := I) hR hd (.inl hrun) ?_ ?_ ?_ ?_
  · exact hE.trans hst.1
  · intro id y hy
    by_cases e : id = nid
    · right; simp; omega
    · rw [if_neg e] at hy; exact .inl hy
  · exact hst.2
  · exact ⟨_, _, cap, if_pos rfl, rfl, rfl, hcap, fun h => by (cases h), fun ad had => .inr ⟨rfl, (Option.some.inj had).symm, by simpa using hfit⟩⟩

/-- what a growing append leaves, as a label's row -/
theorem grown_goes (hR : RelF n f ρ I a w) (hd : ∀ d, o.dst = some d → d < n) (hn : ρ nid = none) {upd : List (Nat × Option Obj)} (hu : ∀ i ob, updO f.ob upd i = some ob → f.ob i = some ob) {e : TypeId} {cs : Shs} {l : List (Tup cs)} {olds news : List Value} {zv : Value} {sLen sCap m : Nat} {kn : Bool}
    (hrun : (execOp a.eval o).run P w = .ok (.value (.slice (some ⟨w.heap.size, 0, none⟩) (sLen + m) (grownCap w (sLen + m) sCap e))) (w.drew.alloc (.cells ((olds ++ news).toArray ++ Builtin.zeroCells zv.cells (grownCap w (sLen + m) sCap e - (sLen + m))) e)))
    (hl : l.length = sLen + m) (hrel : Rcs w I ρ (flatT cs l) (olds ++ news)) (hzs : zv.cells.size = cs.len) :
    OpGoes P n o f ρ I a w nid { v := .c (.rw nid cs.len kn), upd := upd, new := [.row cs l .own] } := by
  have hge := grownCap_ge w (sLen + m) sCap e
  rw [← hl] at hrun hge
  have hlen : (olds ++ news).length = l.length * cs.len := by rw [← Rcs_length hrel, flatT_length]
  refine grow_goes (w' := w.drew.alloc (.cells ((olds ++ news).toArray ++ Builtin.zeroCells zv.cells (grownCap w l.length sCap e - l.length)) e)) (T := e) (c := (olds ++ news).toArray ++ Builtin.zeroCells zv.cells (grownCap w l.length sCap e - l.length)) (cap := grownCap w l.length sCap e) hR hd hn hu hrun rfl rfl rfl rfl hge ?_ ?_
  · have h2 : ((olds ++ news).toArray ++ Builtin.zeroCells zv.cells (grownCap w l.length sCap e - l.length)).size = l.length * cs.len + (grownCap w l.length sCap e - l.length) * cs.len := by
      rw [Array.size_append, size_zeroCells, hzs]
      simp only [List.size_toArray, hlen]
    rw [h2, ← Nat.add_mul]
    exact Nat.mul_le_mul_right _ (by omega)
  · intro i t hi
    have := cells_rows (ρ := ρ) (b := w.heap.size) l 0 (olds ++ news) (hrel.mono (w' := w.drew.alloc (.cells ((olds ++ news).toArray ++ Builtin.zeroCells zv.cells (grownCap w l.length sCap e - l.length)) e)) (fun _ h => h) (fun b hb => by
        show (w.heap.push _)[b]? = _
        rw [Array.getElem?_push, if_neg (by have := hR.heap.immB b hb; omega)]) (fun _ _ h => h)) (fun j v hj => by
        refine cells_of_push (w := w) (c := (olds ++ news).toArray ++ Builtin.zeroCells zv.cells (grownCap w l.length sCap e - l.length)) (T := e) (fz := (0, 0)) rfl j v ?_
        simp only [Array.toList_append]
        rw [List.getElem?_append_left (List.getElem?_eq_some_iff.1 hj).1]
        exact hj) i t hi
    rwa [Nat.zero_add] at this

theorem flatT_append {cs : Shs} (l x : List (Tup cs)) : flatT cs (l ++ x) = flatT cs l ++ flatT cs x := List.flatMap_append

theorem Rcs_app : {xs ys : List C} → {us vs : List Value} → Rcs w I ρ xs us → Rcs w I ρ ys vs → Rcs w I ρ (xs ++ ys) (us ++ vs)
  | [], _, [], _, _, h => h
  | [], _, _ :: _, _, h, _ => h.elim
  | _ :: _, _, [], _, h, _ => h.elim
  | _ :: _, _, _ :: _, _, ⟨h1, h2⟩, h => ⟨h1, Rcs_app h2 h⟩

theorem updO_none {id : Nat} {ob : Nat → Option Obj} (i : Nat) (o : Obj) (h : updO ob [(id, none)] i = some o) : ob i = some o := by
  simp only [updO] at h
  split at h
  · cases h
  · exact h

theorem appendO_goes (hR : RelF n f ρ I a w) (hm : ∀ id o, h.at? id = some o → f.ob id = some o) (hd : ∀ d, o.dst = some d → d < n) (hn : ρ nid = none) {c : Call} {xd xs : Operand} {vd vs : V} (hx : Rv w I ρ vd (a.eval xd)) (hy : Rv w I ρ vs (a.eval xs))
    (hop : o.op = .call c) (hc : c.callee = .builtin .append) (hargs : c.args = #[xd, xs]) {out : Out} (he : (appendO P h nid c.argTypes.toList vd vs).run = some out) : OpGoes P n o f ρ I a w nid out := by
  obtain ⟨consts, hex⟩ := exec_builtin (P := P) (w := w) (a := a) hop hc
  unfold appendO at he
  split at he
  · rename_i d s
    split at he
    · rename_i t u hts
      have hts : c.argTypes = #[t, u] := by
        apply Array.ext'
        simpa using hts
      have hex2 : ∀ {v w'}, (Builtin.append_ #[t, u] o.type #[a.eval xd, a.eval xs]).run P w = .ok v w' → (execOp a.eval o).run P w = .ok (.value v) w' := by
        intro v w' hv
        rw [hex]
        simp [builtin, hargs, hts, hv]
      split at he
      · exact (fail_run he).elim
      · rename_i e du hni' ht hu
        have hni : ∀ k, du ≠ .int k := fun k hk => hni' k hk
        split at he
        · rename_i cs hcs
          split at he
          · rename_i hst
            obtain ⟨i, hi⟩ := info_of_tsz hst.2.1
            obtain ⟨z, hz, hzl⟩ : ∃ z, zeroCs P e = some z ∧ z.length = tsz P e := by
              have := hst.2.2.2
              cases hz : zeroCs P e with
              | none => simp [hz] at this
              | some z => simp [hz] at this; exact ⟨z, rfl, this⟩
            obtain ⟨zv, hzv, hzc, _⟩ := zeroCs_ok hz
            have hzs : zv.cells.size = tsz P e := by rw [← hzl, hzc]; simp
            split at he
            · rename_i x hsrc
              obtain ⟨news, S⟩ := src_ok (P := P) hR.heap hm hy hsrc
              split at he
              · obtain ⟨hb, he⟩ := node_fail he
                cases leaf_run he
                simp only [decide_eq_true_eq] at hb
                have e0 : a.eval xd = .slice none 0 0 := hx
                by_cases h0 : x.length = 0
                · have hx0 : x = [] := List.eq_nil_of_length_eq_zero h0
                  subst hx0
                  have hrun := hex2 (by rw [e0]; exact run_append_none ht hu hni hi S.lenOf (by have := S.first w (fun _ _ => rfl); rw [hst.1] at this; exact this))
                  obtain ⟨g1, g2⟩ := empty_step (nid := nid) (cs := cs) (upd := []) hR.heap hn (fun i o h => h) 0
                  refine OpGoes.of (ρ' := fun i => if i = nid then some ⟨0, 0, 0, cs.len, false⟩ else ρ i) (I' := I) hR hd (.inl hrun) g1 ?_ g2 ?_
                  · intro id y hy
                    by_cases e : id = nid
                    · right; simp; omega
                    · rw [if_neg e] at hy; exact .inl hy
                  · exact ⟨_, none, 0, if_pos rfl, hst.1, rfl, Nat.le_refl _, fun _ => rfl, fun _ h => by cases h⟩
                · have hf : (Builtin.firstCells (tsz P e) x.length (a.eval xs)).run P w.drew = .ok news.toArray w.drew := by have := S.first w.drew (fun _ _ => rfl); rwa [hst.1] at this
                  have hrun := hex2 (by
                    rw [e0]
                    exact run_append_more (olds := []) ht hu hni hi hzv S.lenOf hf rfl (by omega) hst.2.2.1 (by simpa using hb))
                  have hr := grown_goes (upd := []) (cs := cs) (l := x) (kn := knownLen s) hR hd hn (fun i o h => h) hrun (by omega) (by simpa using S.rel) (by rw [hst.1]; exact hzs)
                  rwa [hst.1] at hr
              · rename_i id sz k
                split at he
                · rename_i cs' l0 hat
                  split at he
                  · rename_i l hcast
                    obtain ⟨ec, el⟩ := castL_ok hcast
                    subst ec
                    subst el
                    split at he
                    · rename_i hcond
                      obtain ⟨hsz, hid⟩ := hcond
                      obtain ⟨hb, he⟩ := node_fail he
                      cases leaf_run he
                      simp only [decide_eq_true_eq] at hb
                      obtain ⟨z, ad, cap, hz, hzsz, hv, hle, hat2⟩ := hx
                      obtain ⟨y, hy', hro⟩ := hR.heap.obj id _ (hm _ _ hat)
                      have hyz : y = z := by rw [hz] at hy'; exact (Option.some.inj hy').symm
                      subst hyz
                      have hlen := hro.1
                      rw [hlen] at hv hle
                      have e0 : a.eval xd = .slice ad l.length cap := hv
                      have hzsz' : y.sz = cs'.len := hro.2.1
                      have e1 : sz = cs'.len := by rw [← hzsz, hzsz']
                      subst e1
                      by_cases hgr : cap < l.length + x.length
                      · obtain ⟨olds, So⟩ := src_row (P := P) (off := 0) (n := l.length) hro (fun hr => hR.heap.blk id y hz hr) (by simpa using hat2) (by omega) hle
                        rw [List.drop_zero, List.take_of_length_le (Nat.le_refl _)] at So
                        have hf : (Builtin.firstCells (tsz P e) x.length (a.eval xs)).run P w.drew = .ok news.toArray w.drew := by have := S.first w.drew (fun _ _ => rfl); rwa [hst.1] at this
                        have ho : (Builtin.firstCells (tsz P e) l.length (.slice ad l.length cap)).run P w.drew = .ok olds.toArray w.drew := by have := So.first w.drew (fun _ _ => rfl); rwa [hst.1] at this
                        have hrun := hex2 (by
                          rw [e0]
                          exact run_append_more (olds := olds) ht hu hni hi hzv S.lenOf hf ho hgr hst.2.2.1 hb)
                        exact grown_goes (upd := [(id, none)]) (cs := cs') (l := l ++ x) (kn := k && knownLen s) hR hd hn updO_none hrun (by simp) (by rw [flatT_append]; exact Rcs_app So.rel S.rel) (by rw [hst.1]; exact hzs)
                      · have hf : (Builtin.firstCells (tsz P e) x.length (a.eval xs)).run P w = .ok news.toArray w := by have := S.first w (fun _ _ => rfl); rwa [hst.1] at this
                        by_cases hc0 : cap = 0
                        · subst hc0
                          have hl0 : l = [] := List.eq_nil_of_length_eq_zero (by omega)
                          have hx0 : x = [] := List.eq_nil_of_length_eq_zero (by omega)
                          subst hl0
                          subst hx0
                          have hnews : news = [] := List.eq_nil_of_length_eq_zero (by have := S.len; simpa using this)
                          subst hnews
                          have hrun : (execOp a.eval o).run P w = .ok (.value (.slice ad 0 0)) w := by
                            cases ad with
                            | none => exact hex2 (by rw [e0]; exact run_append_none ht hu hni hi S.lenOf hf)
                            | some ad => exact hex2 (by rw [e0]; exact run_append_room' (w' := w) ht hu hni hi S.lenOf hf (by simp) (by simp [storeCells]))
                          obtain ⟨g1, g2⟩ := empty_step (nid := nid) (cs := cs') (upd := [(id, none)]) hR.heap hn updO_none 0
                          refine OpGoes.of (ρ' := fun i => if i = nid then some ⟨0, 0, 0, cs'.len, false⟩ else ρ i) (I' := I) hR hd (.inl hrun) g1 ?_ g2 ?_
                          · intro id y hy
                            by_cases e : id = nid
                            · right; simp; omega
                            · rw [if_neg e] at hy; exact .inl hy
                          · exact ⟨_, ad, 0, if_pos rfl, rfl, rfl, Nat.le_refl _, fun _ => rfl, fun _ _ => .inl rfl⟩
                        · cases ad with
                          | none => exact absurd (hat2.1 rfl) hc0
                          | some ad =>
                            rcases hat2.2 ad rfl with hh | ⟨hreal, rfl, hfit⟩
                            · exact absurd hh hc0
                            · have hro' := hro
                              obtain ⟨_, _, _, q⟩ := hro'
                              obtain ⟨c, T, fz, h1, h2, h3, h4, h5, _⟩ := q hreal
                              have hnl := S.len
                              have hroom : (l.length + x.length) * cs'.len ≤ c.size := by
                                rw [hzsz', h2] at hfit
                                exact Nat.le_trans (Nat.mul_le_mul_right cs'.len (show l.length + x.length ≤ cap by omega)) (by omega)
                              have hfit2 : l.length * cs'.len + news.length ≤ c.size := by rw [hnl, ← Nat.add_mul]; exact hroom
                              have hone := flatT_one x news S.rel
                              have hstore := run_store_block (P := P) h1 (h5 rfl) hfit2 hone
                              obtain ⟨k1, k2, k3, k4, k5, k6⟩ := heap_setCells (fz := fz) news (l.length * cs'.len) w c h1 hfit2
                              have hkeep : ∀ b, I b → (w.setCells y.b (l.length * cs'.len) news).heap[b]? = w.heap[b]? := fun b hb => k2 b fun e => hR.heap.actI id _ y (hm _ _ hat) rfl hz hreal (e ▸ hb)
                              have hrun : (execOp a.eval o).run P w = .ok (.value (.slice (some ⟨y.b, 0, none⟩) (l.length + x.length) cap)) (w.setCells y.b (l.length * cs'.len) news) := hex2 (by
                                rw [e0]
                                refine run_append_room' ht hu hni hi S.lenOf hf (by omega) ?_
                                rw [add_plain, Nat.zero_add, ← hst.1]
                                exact hstore)
                              have hsz2 : (spliceV c.toList (l.length * cs'.len) news).toArray.size = c.size := by simp [spliceV]; omega
                              obtain ⟨g1, g2⟩ := relabel_step (w' := w.setCells y.b (l.length * cs'.len) news) (nid := nid) (o' := .row cs' (l ++ x) .own) (y := ⟨y.b, c.size, (l ++ x).length, cs'.len, true⟩) hR.heap (hm _ _ hat) rfl hz hn hreal rfl rfl rfl k4 k5 k6 k3 k2
                                ⟨rfl, rfl, (fun h => by cases h), fun _ => ⟨_, T, fz, k1, by rw [hsz2], by rw [hsz2]; simpa using hroom, by
                                  obtain ⟨us, m1, m2, m3⟩ := rows_cells (ρ := ρ) (w := w) (I := I) l 0 (by simpa using h4)
                                  have hrel := Rcs_app m3 S.rel
                                  rw [← flatT_append] at hrel
                                  have := cells_rows (ρ := ρ) (b := y.b) (l ++ x) 0 (us ++ news) (hrel.mono (w' := w.setCells y.b (l.length * cs'.len) news) (fun _ h => h) hkeep (fun _ _ h => h)) (by
                                    intro j v hj
                                    simp only [World.cell?, k1]
                                    have hul : us.length = l.length * cs'.len := m1
                                    rw [List.getElem?_append] at hj
                                    unfold spliceV
                                    simp only [List.getElem?_append, List.length_append, List.length_take, List.getElem?_take, List.getElem?_drop, Array.length_toList, Option.isSome_none, Bool.false_eq_true, if_false, List.getElem?_toArray, Nat.zero_add]
                                    rw [Nat.min_eq_left (show l.length * cs'.len ≤ c.size by omega)]
                                    split at hj
                                    · rename_i hj1
                                      have hq := m2 j v hj
                                      simp only [World.cell?, h1, Nat.zero_add] at hq
                                      simp only [show j < l.length * cs'.len by omega, show j < l.length * cs'.len + news.length by omega, if_true]
                                      simpa using hq
                                    · rename_i hj1
                                      have hj2 := (List.getElem?_eq_some_iff.1 hj).1
                                      simp only [show ¬ j < l.length * cs'.len by omega, show j < l.length * cs'.len + news.length by omega, if_true, if_false]
                                      rw [← hul]; exact hj)
                                  simpa using this, fun _ => by rw [hsz2]; exact h5 rfl, (fun h => by cases h)⟩⟩
                              refine OpGoes.of (ρ' := fun i => if i = nid then some ⟨y.b, c.size, (l ++ x).length, cs'.len, true⟩ else ρ i) (I' := I) hR hd (.inl hrun) g1 ?_ g2 ?_
                              · intro id y hy
                                by_cases e : id = nid
                                · right; simp; omega
                                · rw [if_neg e] at hy; exact .inl hy
                              · refine ⟨_, some ⟨y.b, 0, none⟩, cap, if_pos rfl, rfl, by simp, by simp; omega, fun h => by (cases h), fun ad had => .inr ⟨rfl, (Option.some.inj had).symm, ?_⟩⟩
                                rw [hzsz', h2] at hfit
                                simpa using hfit
                    · exact (fail_run he).elim
                  · exact (fail_run he).elim
                · exact (fail_run he).elim
              · exact (fail_run he).elim
            · exact (fail_run he).elim
          · exact (fail_run he).elim
        · exact (fail_run he).elim
      · exact (fail_run he).elim
    · exact (fail_run he).elim
  · exact (fail_run he).elim
end
end Go.Eng
