/- The engine, part 16: a call goes as its callee's contract says. -/
import Derived.Test.YtnngcneobkfijaaE15
set_option linter.unusedSimpArgs false
set_option linter.unusedVariables false
namespace Go.Eng
section
variable {P : Program} {w : World} {I : Nat → Prop} {ρ : Rho} {h : Heap} {n : Nat} {o : Oper} {f : Vw} {a : Act} {nid : Nat}

/-- the callee's labels -/
def rhoAt (ρ : Rho) (ids : List Nat) : Rho := fun j => (ids[j]?).bind ρ

theorem callee_heap {ob : Nat → Option Obj} {ids : List Nat} {m : List Obj} (hH : RelH ob ρ I w) (hnd : ∀ i j x : Nat, ids[i]? = some x → ids[j]? = some x → i = j) (hob : ∀ id o, id ∈ ids → h.at? id = some o → ob id = some o)
    (hcl : ∀ id o, id ∈ ids → h.at? id = some o → ∀ i, i ∈ idsO o → i ∈ ids) (hm : m.length = ids.length ∧ ∀ (j : Nat) (id : Nat), ids[j]? = some id → ∃ o, h.at? id = some o ∧ m[j]? = some (renO (fun id => posOf id ids 0) o)) :
    RelH (obOf m) (rhoAt ρ ids) I w := by
  have hg : ∀ id, id ∈ ids → ∀ x, ρ id = some x → rhoAt ρ ids (posOf id ids 0) = some x := fun id hid x hx => by
    have := (posOf_spec id ids 0 hid).2
    rw [Nat.sub_zero] at this
    simp [rhoAt, this, hx]
  have hget : ∀ j o', obOf m j = some o' → ∃ id o, ids[j]? = some id ∧ id ∈ ids ∧ h.at? id = some o ∧ o' = renO (fun id => posOf id ids 0) o := by
    intro j o' hj
    have hlt : j < m.length := (List.getElem?_eq_some_iff.1 hj).1
    rw [hm.1] at hlt
    have hid : ids[j]? = some ids[j] := List.getElem?_eq_getElem hlt
    obtain ⟨o, h1, h2⟩ := hm.2 j _ hid
    unfold obOf at hj
    rw [h2] at hj
    exact ⟨ids[j], o, hid, List.getElem_mem hlt, h1, (Option.some.inj hj).symm⟩
  refine ⟨?_, ?_, ?_, ?_, hH.immB⟩
  · intro j o' hj
    obtain ⟨id, o, h1, h2, h3, rfl⟩ := hget j o' hj
    obtain ⟨x, hx, hro⟩ := hH.obj id o (hob id o h2 h3)
    exact ⟨x, by simp [rhoAt, h1, hx], hro.ren fun i hi y hy => hg i (hcl id o h2 h3 i hi) y hy⟩
  · intro j x hj hr
    simp only [rhoAt, Option.bind_eq_some_iff] at hj
    obtain ⟨id, _, hx⟩ := hj
    exact hH.blk id x hx hr
  · intro i j o1 o2 x1 x2 h1 h2 w1 w2 hne h3 h4 h5 h6
    obtain ⟨id1, q1, k1, l1, m1, rfl⟩ := hget i o1 h1
    obtain ⟨id2, q2, k2, l2, m2, rfl⟩ := hget j o2 h2
    rw [owned_ren] at w1 w2
    simp only [rhoAt, k1, k2, Option.bind_some] at h3 h4
    exact hH.disj id1 id2 q1 q2 x1 x2 (hob _ _ l1 m1) (hob _ _ l2 m2) w1 w2 (fun e => hne (hnd i j id1 k1 (e ▸ k2))) h3 h4 h5 h6
  · intro j o' x hj w1 hx hr
    obtain ⟨id, o, h1, h2, h3, rfl⟩ := hget j o' hj
    rw [owned_ren] at w1
    simp only [rhoAt, h1, Option.bind_some] at hx
    exact hH.actI id o x (hob _ _ h2 h3) w1 hx hr

/-- What a call leaves, in the caller's labels. -/
theorem full_back {ob1 : Nat → Option Obj} {ids : List Nat} {m : List Obj} {m' : Heap} {new : List Obj} {w' : World} {ρc' : Rho} {I' : Nat → Prop} (hH : RelH ob1 ρ I w) (hnid : ∀ i, nid ≤ i → i < nid + new.length → ρ i = none) (hnd : ∀ i j x : Nat, ids[i]? = some x → ids[j]? = some x → i = j)
    (hm : m.length = ids.length ∧ ∀ (j : Nat) (id : Nat), ids[j]? = some id → ∃ o, ob1 id = some o ∧ m[j]? = some (renO (fun id => posOf id ids 0) o))
    (hE : Ext (obOf m) (rhoAt ρ ids) I w m'.at? ρc' I' w') (hH' : RelH m'.at? ρc' I' w') (hdom : ∀ id x, ρc' id = some x → id < m'.length) (hle : m.length ≤ m'.length) (hnew : m'.drop m.length = new.map some) :
    ∃ ρ', (∀ j x, ρc' j = some x → ρ' (backId ids nid j) = some x) ∧ (∀ id x, ρ' id = some x → ρ id = some x ∨ (nid ≤ id ∧ id < nid + new.length)) ∧
      Ext ob1 ρ I w (newO (updO ob1 (ids.zip ((m'.take m.length).map (·.map (renO (backId ids nid)))))) nid (new.map (renO (backId ids nid)))) ρ' I' w' ∧
      RelH (newO (updO ob1 (ids.zip ((m'.take m.length).map (·.map (renO (backId ids nid)))))) nid (new.map (renO (backId ids nid)))) ρ' I' w' := by
  have hlen : m'.length = ids.length + new.length := by
    have := congrArg List.length hnew
    simp at this
    omega
  let ρ' : Rho := fun id => match ρ id with
    | some x => some x
    | none => if nid ≤ id ∧ id < nid + new.length then ρc' (ids.length + (id - nid)) else none
  have hold : ∀ id x, ρ id = some x → ρ' id = some x := fun id x hx => by simp [ρ', hx]
  have hids : ∀ j id, ids[j]? = some id → ∃ x, ρ id = some x ∧ ρc' j = some x ∧ ¬ (nid ≤ id ∧ id < nid + new.length) := by
    intro j id hj
    obtain ⟨o, h1, h2⟩ := hm.2 j id hj
    obtain ⟨x, hx, _⟩ := hH.obj id o h1
    refine ⟨x, hx, hE.rho j x (by simp [rhoAt, hj, hx]), fun h => ?_⟩
    rw [hnid id h.1 h.2] at hx; cases hx
  have hback : ∀ j x, ρc' j = some x → ρ' (backId ids nid j) = some x := by
    intro j x hx
    unfold backId
    cases hj : ids[j]? with
    | some id =>
      obtain ⟨y, h1, h2, _⟩ := hids j id hj
      rw [h2] at hx
      exact hold id x (h1.trans hx)
    | none =>
      have hge : ids.length ≤ j := List.getElem?_eq_none_iff.1 hj
      have hjm := hdom j x hx
      have h0 := hnid (nid + (j - ids.length)) (by omega) (by omega)
      simp only [ρ', h0]
      rw [if_pos (by omega), show ids.length + (nid + (j - ids.length) - nid) = j by omega]
      exact hx
  have hdom' : ∀ id x, ρ' id = some x → ρ id = some x ∨ (ρ id = none ∧ nid ≤ id ∧ id < nid + new.length ∧ ρc' (ids.length + (id - nid)) = some x) := by
    intro id x hx
    simp only [ρ'] at hx
    cases h0 : ρ id with
    | some y => rw [h0] at hx; exact .inl hx
    | none =>
      rw [h0] at hx
      simp only at hx
      split at hx
      · rename_i hge
        exact .inr ⟨rfl, hge.1, hge.2, hx⟩
      · cases hx
  -- the view behind it
  let os := (m'.take m.length).map (·.map (renO (backId ids nid)))
  have hosl : os.length = ids.length := by simp [os]; omega
  let ob2 := newO (updO ob1 (ids.zip os)) nid (new.map (renO (backId ids nid)))
  have hview : ∀ i o2, ob2 i = some o2 → (∃ j o', m'.at? j = some o' ∧ o2 = renO (backId ids nid) o' ∧ backId ids nid j = i ∧ (∀ x, ρ' i = some x → ρc' j = some x)) ∨ (i ∉ ids ∧ ob1 i = some o2 ∧ ¬ (nid ≤ i ∧ i < nid + new.length)) := by
    intro i o2 h2
    simp only [ob2, newO, List.length_map] at h2
    split at h2
    · rename_i hi
      left
      refine ⟨ids.length + (i - nid), ?_⟩
      rw [List.getElem?_map] at h2
      cases hq : new[i - nid]? with
      | none => rw [hq] at h2; simp at h2
      | some o' =>
        rw [hq] at h2
        simp at h2
        refine ⟨o', ?_, h2.symm, ?_, ?_⟩
        · have : (m'.drop m.length)[i - nid]? = some (some o') := by rw [hnew, List.getElem?_map, hq]; rfl
          rw [List.getElem?_drop, hm.1] at this
          simp [Heap.at?, this]
        · unfold backId
          rw [List.getElem?_eq_none (by omega)]
          simp only
          omega
        · intro x hx
          simp only [ρ', hnid i hi.1 hi.2] at hx
          rw [if_pos hi] at hx
          exact hx
    · rename_i hi
      by_cases hin : i ∈ ids
      · left
        obtain ⟨j, hj⟩ := List.getElem?_of_mem hin
        rw [(updO_zip ids os ob1 hosl hnd i).2 j hj] at h2
        have hjl : j < m.length := by rw [hm.1]; exact (List.getElem?_eq_some_iff.1 hj).1
        have : os[j]? = (m'[j]?).map (·.map (renO (backId ids nid))) := by
          simp only [os, List.getElem?_map, List.getElem?_take]
          rw [if_pos hjl]
        rw [this] at h2
        cases hq : m'[j]? with
        | none => rw [hq] at h2; simp at h2
        | some oo =>
          rw [hq] at h2
          simp at h2
          obtain ⟨o', rfl, h3⟩ := h2
          refine ⟨j, o', by simp [Heap.at?, hq], h3.symm, by unfold backId; rw [hj], fun x hx => ?_⟩
          obtain ⟨y, k1, k2, _⟩ := hids j i hj
          have := hold i y k1
          rw [this] at hx
          exact k2.trans hx
      · right
        rw [(updO_zip ids os ob1 hosl hnd i).1 hin] at h2
        exact ⟨hin, h2, hi⟩
  have hkeepI : ∀ b, I b → w'.heap[b]? = w.heap[b]? := fun b hb => hE.frame b (hH.immB b hb) fun ⟨j, o', x, h1, h2, h3, h4, h5⟩ => by
    have hlt : j < m.length := (List.getElem?_eq_some_iff.1 h1).1
    rw [hm.1] at hlt
    have hid : ids[j]? = some ids[j] := List.getElem?_eq_getElem hlt
    obtain ⟨oo, k1, k2⟩ := hm.2 j _ hid
    unfold obOf at h1
    rw [k2] at h1
    cases h1
    rw [owned_ren] at h2
    simp only [rhoAt, hid, Option.bind_some] at h3
    exact hH.actI _ oo x k1 h2 h3 h4 (h5 ▸ hb)
  -- a block that the callee turns is one of ours
  have hact : ∀ b, ActB (obOf m) (rhoAt ρ ids) b → ∃ id o x, id ∈ ids ∧ ob1 id = some o ∧ owned o = true ∧ ρ id = some x ∧ x.real = true ∧ x.b = b := by
    rintro b ⟨j, o', x, h1, h2, h3, h4, h5⟩
    have hlt : j < m.length := (List.getElem?_eq_some_iff.1 h1).1
    rw [hm.1] at hlt
    have hid : ids[j]? = some ids[j] := List.getElem?_eq_getElem hlt
    obtain ⟨oo, k1, k2⟩ := hm.2 j _ hid
    unfold obOf at h1
    rw [k2] at h1
    cases h1
    rw [owned_ren] at h2
    simp only [rhoAt, hid, Option.bind_some] at h3
    exact ⟨_, oo, x, List.getElem_mem hlt, k1, h2, h3, h4, h5⟩
  have hoth : ∀ i o2 x, i ∉ ids → ob1 i = some o2 → ρ i = some x → x.real = true → ¬ ActB (obOf m) (rhoAt ρ ids) x.b := by
    intro i o2 x hi h1 h2 h3 hb
    obtain ⟨id, o', y, k1, k2, k3, k4, k5, k6⟩ := hact _ hb
    exact hH.apart i id o2 o' x y h1 k2 k3 (fun e => hi (e ▸ k1)) h2 k4 h3 k5 k6.symm
  refine ⟨ρ', hback, fun id x hx => ?_, ?_, ?_⟩
  · rcases hdom' id x hx with h | ⟨_, h1, h2, _⟩
    · exact .inl h
    · exact .inr ⟨h1, h2⟩
  · refine ⟨hE.os, hE.tape, hE.output, hE.size, hold, hE.imm, ?_, ?_, ?_⟩
    · intro b hb hi
      rcases hE.immNew b hb hi with h1 | h1
      · exact .inl h1
      · obtain ⟨id, o', x, _, k2, k3, k4, k5, k6⟩ := hact b h1
        exact .inr ⟨id, o', x, k2, k3, k4, k5, k6⟩
    · rintro b hb ⟨i, o2, x, h1, h2, h3, h4, h5⟩
      rcases hview i o2 h1 with ⟨j, o', k1, rfl, k3, k4⟩ | ⟨k1, k2, k3⟩
      · rw [owned_ren] at h2
        obtain ⟨id, o'', y, _, l2, l3, l4, l5, l6⟩ := hact b (hE.act b hb ⟨j, o', x, k1, h2, k4 x h3, h4, h5⟩)
        exact ⟨id, o'', y, l2, l3, l4, l5, l6⟩
      · rcases hdom' i x h3 with h | ⟨_, h, h', _⟩
        · exact ⟨i, o2, x, k2, h2, h, h4, h5⟩
        · omega
    · intro b hb hna
      refine hE.frame b hb fun hh => hna ?_
      obtain ⟨id, o', x, _, k2, k3, k4, k5, k6⟩ := hact b hh
      exact ⟨id, o', x, k2, k3, k4, k5, k6⟩
  · refine ⟨?_, ?_, ?_, ?_, hH'.immB⟩
    · intro i o2 h1
      rcases hview i o2 h1 with ⟨j, o', k1, rfl, k3, k4⟩ | ⟨k1, k2, k3⟩
      · obtain ⟨x, hx, hro⟩ := hH'.obj j o' k1
        exact ⟨x, k3 ▸ hback j x hx, hro.ren fun q _ y hy => hback q y hy⟩
      · obtain ⟨x, hx, hro⟩ := hH.obj i o2 k2
        exact ⟨x, hold i x hx, hro.mono hE.imm hkeepI hold fun hr => hE.frame _ (hH.blk i x hx hr) (hoth i o2 x k1 k2 hx hr)⟩
    · intro id x hx hr
      rcases hdom' id x hx with h | ⟨_, _, _, h⟩
      · exact Nat.lt_of_lt_of_le (hH.blk id x h hr) hE.size
      · exact hH'.blk _ x h hr
    · intro i i' o1 o2 x1 x2 h1 h2 w1 w2 hne h3 h4 h5 h6
      have cross : ∀ i i' o1 o2 x1 x2, i ∉ ids → ob1 i = some o1 → ¬ (nid ≤ i ∧ i < nid + new.length) → owned o1 = true → ρ' i = some x1 → x1.real = true → (∃ j o', m'.at? j = some o' ∧ o2 = renO (backId ids nid) o' ∧ backId ids nid j = i' ∧ (∀ x, ρ' i' = some x → ρc' j = some x)) → owned o2 = true → ρ' i' = some x2 → x2.real = true → x1.b ≠ x2.b := by
        rintro i i' o1 o2 x1 x2 k1 k2 k3 v1 h3 h5 ⟨j, o', l1, rfl, l3, l4⟩ v2 h4 h6 hb
        rw [owned_ren] at v2
        have hx1 : ρ i = some x1 := by
          rcases hdom' i x1 h3 with h | ⟨_, h, h', _⟩
          · exact h
          · omega
        have hlt := hH.blk i x1 hx1 h5
        exact hoth i o1 x1 k1 k2 hx1 h5 (hE.act x1.b hlt ⟨j, o', x2, l1, v2, l4 x2 h4, h6, hb.symm⟩)
      rcases hview i o1 h1 with ⟨j, o', k1, rfl, k3, k4⟩ | ⟨k1, k2, k3⟩
      · rcases hview i' o2 h2 with ⟨j', o'', l1, rfl, l3, l4⟩ | ⟨l1, l2, l3⟩
        · rw [owned_ren] at w1 w2
          exact hH'.disj j j' o' o'' x1 x2 k1 l1 w1 w2 (fun e => hne (by rw [← k3, ← l3, e])) (k4 x1 h3) (l4 x2 h4) h5 h6
        · exact (cross i' i o2 _ x2 x1 l1 l2 l3 w2 h4 h6 ⟨j, o', k1, rfl, k3, k4⟩ w1 h3 h5).symm
      · rcases hview i' o2 h2 with hh | ⟨l1, l2, l3⟩
        · exact cross i i' o1 o2 x1 x2 k1 k2 k3 w1 h3 h5 hh w2 h4 h6
        · have q1 : ρ i = some x1 := by
            rcases hdom' i x1 h3 with h | ⟨_, h, h', _⟩
            · exact h
            · omega
          have q2 : ρ i' = some x2 := by
            rcases hdom' i' x2 h4 with h | ⟨_, h, h', _⟩
            · exact h
            · omega
          exact hH.disj i i' o1 o2 x1 x2 k2 l2 w1 w2 hne q1 q2 h5 h6
    · intro i o2 x h1 h2 h3 h4 hi
      rcases hview i o2 h1 with ⟨j, o', k1, rfl, k3, k4⟩ | ⟨k1, k2, k3⟩
      · rw [owned_ren] at h2
        exact hH'.actI j o' x k1 h2 (k4 x h3) h4 hi
      · have q1 : ρ i = some x := by
          rcases hdom' i x h3 with h | ⟨_, h, h', _⟩
          · exact h
          · omega
        rcases hE.immNew x.b (hH.blk i x q1 h4) hi with hh | hh
        · exact hH.actI i o2 x k2 h2 q1 h4 hh
        · exact hoth i o2 x k1 k2 q1 h4 hh

theorem callO_goes (hR : RelF n f ρ I a w) (hm : ∀ id o, h.at? id = some o → f.ob id = some o) (hd : ∀ d, o.dst = some d → d < n) {k : FuncId} {raw : Bool} {sp : Spec} {args : List V} {vals : Array Value}
    (hargs : Rvs w I ρ args vals.toList) (hsp : SpecOk P k sp) {out : Out} (he : (callO h nid raw sp args).run = some out) (hn : ∀ i, nid ≤ i → i < nid + out.new.length → ρ i = none) (hex : (execOp a.eval o).run P w = (callFunc k vals).run P w) : OpGoes P n o f ρ I a w nid out := by
  unfold callO at he
  simp only at he
  split at he
  · exact (fail_run he).elim
  · rename_i ids hids
    split at he
    · rename_i hc
      simp only [Bool.and_eq_true, Bool.or_eq_true] at hc
      obtain ⟨⟨⟨⟨c1, c2⟩, c3⟩, c4⟩, c5⟩ := hc
      split at he
      · exact (fail_run he).elim
      · rename_i m hmo
        obtain ⟨r, hr, he⟩ := bind_run he
        have hnd := fun i j x h1 h2 => nodupB_ok c2 i j x h1 h2
        have hobj := objsAt_spec hmo
        -- behind the shutting
        obtain ⟨I1, hE0, hH0, hA, hsub, hkeep⟩ : ∃ I1, Ext f.ob ρ I w (updO f.ob (bif raw then [] else shutIds h (args.flatMap V.cells))) ρ I1 w ∧ RelH (updO f.ob (bif raw then [] else shutIds h (args.flatMap V.cells))) ρ I1 w ∧
            Rvs w I1 ρ (bif raw then args else args.map (convV h)) vals.toList ∧ (∀ b, I b → I1 b) ∧ (∀ id, id ∈ ids → updO f.ob (bif raw then [] else shutIds h (args.flatMap V.cells)) id = f.ob id) := by
          cases raw with
          | true => exact ⟨I, Ext.refl _ _ _ _, hR.heap, hargs, fun _ h => h, fun _ _ => rfl⟩
          | false =>
            obtain ⟨s1, s2⟩ := shut_step (h := h) (args.flatMap V.cells) hR.heap hm
            refine ⟨_, s1, s2, convV_all _ hR.heap hm c1 (fun c hc => hc) hargs, fun b hb => .inl hb, fun id hid => ?_⟩
            refine (updO_shut _ f.ob id).1 fun hs => ?_
            have c5' : ((rowIds h (args.flatMap V.cells)).all fun i => !hasN ids i) = true := c5.resolve_left (by simp)
            have := List.all_eq_true.1 c5' id (mem_rowIds hs)
            simp at this
            exact this hid
        generalize hupd0 : (bif raw then [] else shutIds h (args.flatMap V.cells)) = upd0 at *
        generalize hargs1 : (bif raw then args else args.map (convV h)) = args1 at *
        have hnt1 : args1.all noTup = true := by
          subst hargs1
          cases raw with
          | true => exact c1
          | false => exact noTup_conv c1
        have hob1 : ∀ id o, id ∈ ids → h.at? id = some o → updO f.ob upd0 id = some o := fun id o hid hat => by rw [hkeep id hid]; exact hm id o hat
        have hcl : ∀ id o, id ∈ ids → h.at? id = some o → ∀ i, i ∈ idsO o → i ∈ ids := by
          intro id o hid hat i hi
          have := List.all_eq_true.1 c4 id hid
          rw [hat] at this
          have := List.all_eq_true.1 this i hi
          simpa using this
        have hcH := callee_heap (h := h) hH0 hnd hob1 hcl hobj
        have hdomc : ∀ j x, rhoAt ρ ids j = some x → j < m.length := by
          intro j x hj
          simp only [rhoAt, Option.bind_eq_some_iff] at hj
          obtain ⟨id, hid, _⟩ := hj
          rw [hobj.1]
          exact (List.getElem?_eq_some_iff.1 hid).1
        have hcA : Rvs w I1 (rhoAt ρ ids) (args1.map (renV fun id => posOf id ids 0)) vals.toList := by
          refine hA.ren fun id hid x hx => ?_
          rw [cells_idsV hnt1] at hid
          have hin : id ∈ ids := by
            have := List.all_eq_true.1 c3 id hid
            simpa using this
          have := (posOf_spec id ids 0 hin).2
          rw [Nat.sub_zero] at this
          simp [rhoAt, this, hx]
        have hT := hsp _ _ _ hr (rhoAt ρ ids) I1 w vals hcH hdomc hcA
        cases r with
        | pure v =>
          simp only at he hT
          cases leaf_run he
          refine OpGoes.call hR hd hex (hT.mono fun cv w' hh => ?_)
          obtain ⟨I', hp⟩ := hh
          have hback : ∀ j x, rhoAt ρ ids j = some x → ρ (backId ids nid j) = some x := by
            intro j x hj
            simp only [rhoAt, Option.bind_eq_some_iff] at hj
            obtain ⟨id, hid, hx⟩ := hj
            unfold backId
            rw [hid]; exact hx
          have plain : Ext f.ob ρ I w f.ob ρ I w' := ⟨hp.os, hp.tape, hp.output, hp.size, fun _ _ h => h, fun _ h => h, fun _ _ h => .inl h, fun _ _ h => h, fun b hb _ => hp.old b hb⟩
          simp only [newO_nil]
          by_cases hb : (raw || scalarV v) = true
          · rw [hb]
            simp only [cond_true, updO]
            by_cases hs : scalarV v = true
            · exact ⟨ρ, I, plain, fun id x h => .inl h, hR.heap.mono hp.size hp.old, scalarV_ren hs hp.rel⟩
            · have hraw : raw = true := by simpa [hs] using hb
              subst hraw
              simp only [cond_true] at hupd0
              subst hupd0
              simp only [updO] at hE0 hH0
              refine ⟨ρ, I', ⟨hp.os, hp.tape, hp.output, hp.size, fun _ _ h => h, fun b h => hp.imm b (hsub b h), ?_, fun _ _ h => h, fun b hb _ => hp.old b hb⟩, fun id x h => .inl h, ?_, hp.rel.ren fun id _ x hx => hback id x hx⟩
              · intro b hb hi
                exact hE0.immNew b hb (hp.immOld b hb hi)
              · refine ⟨fun id o ho => ?_, fun id x hx hr => Nat.lt_of_lt_of_le (hH0.blk id x hx hr) hp.size, hH0.disj, fun id o x h1 h2 h3 h4 h5 => hH0.actI id o x h1 h2 h3 h4 (hp.immOld _ (hH0.blk id x h3 h4) h5), hp.immB⟩
                obtain ⟨x, hx, hro⟩ := hH0.obj id o ho
                exact ⟨x, hx, hro.mono hp.imm (fun b hb => hp.old b (hH0.immB b hb)) (fun _ _ h => h) fun hr => hp.old _ (hH0.blk id x hx hr)⟩
          · have hb' : (raw || scalarV v) = false := by simpa using hb
            have hraw : raw = false := by simp at hb'; exact hb'.1
            subst hraw
            rw [hb']
            simp only [cond_false] at hupd0 ⊢
            subst hupd0
            refine ⟨ρ, I', hE0.trans ⟨hp.os, hp.tape, hp.output, hp.size, fun _ _ h => h, hp.imm, fun b hb hi => .inl (hp.immOld b hb hi), fun _ _ h => h, fun b hb _ => hp.old b hb⟩, fun id x h => .inl h, ?_, hp.rel.ren fun id _ x hx => hback id x hx⟩
            refine ⟨fun id o ho => ?_, fun id x hx hr => Nat.lt_of_lt_of_le (hH0.blk id x hx hr) hp.size, hH0.disj, fun id o x h1 h2 h3 h4 h5 => hH0.actI id o x h1 h2 h3 h4 (hp.immOld _ (hH0.blk id x h3 h4) h5), hp.immB⟩
            obtain ⟨x, hx, hro⟩ := hH0.obj id o ho
            exact ⟨x, hx, hro.mono hp.imm (fun b hb => hp.old b (hH0.immB b hb)) (fun _ _ h => h) fun hr => hp.old _ (hH0.blk id x hx hr)⟩
        | full v m' =>
          simp only at he hT
          split at he
          · rename_i hle
            split at he
            · rename_i new hnew
              cases leaf_run he
              refine OpGoes.call hR hd hex (hT.mono fun cv w' hh => ?_)
              obtain ⟨ρc', I', hf⟩ := hh
              obtain ⟨ρ', k1, k2, k3, k4⟩ := full_back (nid := nid) hH0 (by simpa using hn) hnd ⟨hobj.1, fun j id hj => by
                obtain ⟨o, q1, q2⟩ := hobj.2 j id hj
                exact ⟨o, hob1 id o (List.mem_of_getElem? hj) q1, q2⟩⟩ hf.ext hf.heap hf.dom hle (mapM_id hnew)
              refine ⟨ρ', I', ?_, ?_, ?_, hf.rel.ren fun id _ x hx => k1 id x hx⟩
              · rw [updO_append]; exact hE0.trans k3
              · simpa using k2
              · rw [updO_append]; exact k4
            · exact (fail_run he).elim
          · exact (fail_run he).elim
    · exact (fail_run he).elim
end
end Go.Eng
