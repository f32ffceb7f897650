/- TenantMany: whatever its argument is, the law says true and leaves all that was there as it was. Conditions: none beyond the given statement. -/
import Derived.Test.YtnngcneobkfijaaRows
import Derived.ProofKit
import Derived.Test.YtnngcneobkfijaaE25
import Derived.Test.YtnngcneobkfijaaL5A
set_option maxRecDepth 100000
namespace Go.Proofs.Ytnngcneobkfijaa
open Go.ChangeShapes Go.WideShapes Go.ChangeAt Go.RowKit Go.Eng

theorem Try.own : ownKnob Try.prog.godebug = none := by kernel_rfl
theorem Try.laidOut : laidOutB Try.prog = true := by kernel_rfl

theorem many_all (n : Int) (h0 : 0 ≤ n) (h1 : n ≤ 255) : Triple Try.prog 5 [.c (.int .u8 n)] [] (.pure (.c .tt)) := by
  have ht : ∀ r i : Int, (0 ≤ r ∧ r < 5 ∧ 0 ≤ i ∧ i < 5) → n % 5 = r → turned n r i = true := fun r i hb hr => by
    have w : ∀ m : Int, 0 ≤ m → m ≤ 1000 → IntKind.i64.wrap m = m := fun m h1 h2 => by
      unfold IntKind.wrap
      simp only [IntKind.signed, IntKind.bits, Bool.true_and, ge_iff_le, decide_eq_true_eq]
      split <;> omega
    unfold turned
    rw [w n h0 (by omega), w (i + n) (by omega) (by omega), Int.tmod_eq_emod_of_nonneg (by omega), Int.tmod_eq_emod_of_nonneg (by omega)]
    simp only [decide_eq_true_eq]
    omega
  have hc : n % 5 = 0 ∨ n % 5 = 1 ∨ n % 5 = 2 ∨ n % 5 = 3 ∨ n % 5 = 4 := by omega
  rcases hc with hr | hr | hr | hr | hr
  · exact ok5 0 _ _ _ (Tree.runS_ok _ _ (many0 n) (by simpa using ⟨ht 0 4 (by omega) hr, ht 0 3 (by omega) hr, ht 0 2 (by omega) hr, ht 0 1 (by omega) hr, ht 0 0 (by omega) hr⟩)).1
  · exact ok5 1 _ _ _ (Tree.runS_ok _ _ (many1 n) (by simpa using ⟨ht 1 4 (by omega) hr, ht 1 3 (by omega) hr, ht 1 2 (by omega) hr, ht 1 1 (by omega) hr, ht 1 0 (by omega) hr⟩)).1
  · exact ok5 2 _ _ _ (Tree.runS_ok _ _ (many2 n) (by simpa using ⟨ht 2 4 (by omega) hr, ht 2 3 (by omega) hr, ht 2 2 (by omega) hr, ht 2 1 (by omega) hr, ht 2 0 (by omega) hr⟩)).1
  · exact ok5 3 _ _ _ (Tree.runS_ok _ _ (many3 n) (by simpa using ⟨ht 3 4 (by omega) hr, ht 3 3 (by omega) hr, ht 3 2 (by omega) hr, ht 3 1 (by omega) hr, ht 3 0 (by omega) hr⟩)).1
  · exact ok5 4 _ _ _ (Tree.runS_ok _ _ (many4 n) (by simpa using ⟨ht 4 4 (by omega) hr, ht 4 3 (by omega) hr, ht 4 2 (by omega) hr, ht 4 1 (by omega) hr, ht 4 0 (by omega) hr⟩)).1
theorem arg5 (t : Tup (.cons (.int .u8) .nil)) : argV Try.prog 5 (.cons (.int .u8) .nil) t = .c (.int .u8 t.1) := by kernel_rfl
theorem law5 (t : Tup (.cons (.int .u8) .nil)) (ht : WfT (.cons (.int .u8) .nil) t) : ∃ c kn, asB c = some (true, kn) ∧ Triple Try.prog 5 [argV Try.prog 5 (.cons (.int .u8) .nil) t] [] (.pure (.c c)) := by
  rw [arg5]
  exact ⟨.tt, true, rfl, many_all _ ht.1.1 ht.1.2⟩

theorem tenantMany_lifted (os : Os) (started : os.Started) (H : Type) (enc : TypeId × Value → H) :
    ReturnsInHanded {} Try.checked os 5 .any (Rows.tenantManySpec.pre6 enc Try.prog Try.f5 Rows.tenantManyRow.domain false) (Rows.tenantManySpec.post enc Try.prog Try.f5 false true false false) := by
  refine returnsInHanded_of_change (C := Try.checked) Try.own started (by kernel_rfl) Try.func5
    (ChangeSpec.witness6 (enc := enc) (C := Try.checked) false ⟨#[], #[.int .u8 0], []⟩ 8 (by kernel_rfl) (by kernel_rfl) (by kernel_rfl) (by kernel_rfl)) ?_
  intro W base args ds gs before hval0 hW hcnd _
  have hval : ∀ (j : Nat) t v, Try.f5.params[j]? = some t → args[j]? = some v → Value.okWide Try.prog W .any base t v := hval0
  have hW' := hW
  obtain ⟨p, q, hA0, hV, rfl, hfz, hnd⟩ := hW
  have hA : DataW.TrodAll enc Try.prog W 0 (fun _ => true) true Try.f5.params.toList args.toList ds p := hA0
  rw [Try.params5] at hA hval
  obtain ⟨v0, d0, rfl, rfl, h0⟩ := trodAll_one hA
  obtain ⟨rfl, rfl⟩ := trodVars_none hV
  obtain ⟨x0, w0, r0⟩ := arg_data (n := 4) (show lay Try.prog 5 5 = some (.cons (.int .u8) .nil) by kernel_rfl) (hval 0 5 v0 rfl rfl) h0
  obtain ⟨c, kn, hc, hT⟩ := law5 x0 w0
  refine (calls_true (k := 5) (body := bodyOf Try.f5) Try.func5 (by kernel_rfl) (by kernel_rfl) hT hc (vals := #[v0]) ⟨r0, trivial⟩).mono fun e W' ⟨he, hb⟩ => ?_
  subst he
  have hlt : ∀ x ∈ p, x.block < W.heap.size := fun x hx => by simpa using hW'.lt x (by simpa using hx)
  refine ⟨_, rfl, post_of_below (pa := p) (pv := []) hW' (fun _ _ _ => trodAll_mk1 (shut_bool Try.underlying4 true)) (fun sp hsp => trodAll_mk1 (WideElems.Trod_stays Try.laidOut (by kernel_rfl) (of_decide_eq_true (by kernel_rfl)) h0 (fun x hx => hb.same (hlt x hx)) (fun x hx => hsp x (by simpa using hx)))) (fun _ _ => rfl) (by simp) hb
    (ok_one (by kernel_rfl) rfl (okWide_bool_mk Try.underlying4 true))⟩

theorem tenantMany_holds : Rows.TenantManySaid :=
  OpenClaim.holds_of_wide 5 Try.f5 rfl rfl rfl rfl rfl rfl rfl ⟨rfl, rfl, rfl, rfl, rfl⟩ rfl rfl rfl rfl rfl (by kernel_rfl) Try.func5 (by kernel_rfl)
    (of_decide_eq_true (by kernel_rfl)) (by unfold Func.isWrapper; first | (rw [if_pos (by decide +kernel)]; kernel_rfl) | (rw [if_neg (by decide +kernel)]; exact ⟨rfl, rfl⟩))
    (fun os started H enc _ => tenantMany_lifted os started H enc)
end Go.Proofs.Ytnngcneobkfijaa
