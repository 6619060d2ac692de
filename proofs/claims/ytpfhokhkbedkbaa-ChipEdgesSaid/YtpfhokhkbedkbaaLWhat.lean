/- The law FabricWhat: What tells of any node of any fabric just what the document tells. For every fabric and every number; no condition. -/
import Derived.Test.YtpfhokhkbedkbaaFrame
import Derived.Test.YtpfhokhkbedkbaaFabF
import Derived.Test.YtpfhokhkbedkbaaRefD

namespace Go.Proofs.Ytpfhokhkbedkbaa
open Go.ChangeShapes Go.WideShapes Go.ChangeAt Go.RowKit Go.Joins
set_option linter.unusedVariables false
set_option linter.unusedSimpArgs false

theorem own : ownKnob Try.prog.godebug = none := by kernel_rfl
theorem laidOut : laidOutB Try.prog = true := by kernel_rfl

theorem live_any (w : World) :
    Calls Try.prog 12 #[] w fun e w' => e = .returned (.bool true) ∧ Below w.heap.size w w' := by
  have h13 : nodesO 1 1 1 = 13 := by decide
  go_enter Try.func12, Try.ntmps12
  go_wp2_with (go_at_call 27; refine (nodes_any _ _ _ _).mono ?_; rintro e w1 ⟨rfl, hb1⟩)
  go_ret
  exact ⟨rfl, hb1⟩

theorem fabricWhat_walk (W H T n : Int) (w : World) :
    Calls Try.prog 3 #[.agg #[.int .i64 W, .int .i64 H, .int .i64 T], .int .i64 n] w fun e w' => e = .returned (.bool true) ∧ Below w.heap.size w w' := by
  go_enter Try.func3, Try.ntmps3
  go_wp2_with (first
    | (go_at_call 12; refine (live_any _).mono ?_; rintro e w1 ⟨rfl, hb1⟩; obtain ⟨hc1, hf1⟩ := bcell hb1; have hz1 : w.heap.size < w1.heap.size := by have := hb1.size; simp at this; omega)
    | (go_at_call 13; refine (what_any _ _ _ _ _).mono ?_; rintro e w2 ⟨rfl, hb2⟩; obtain ⟨hc2, hf2⟩ := bcell hb2)
    | (go_at_call 14; refine (rwhat_any _ _ _ _ _).mono ?_; rintro e w3 ⟨rfl, hb3⟩))
  go_ret
  have h1 : Below w.heap.size w w1 := ((Below.refl _ _).alloc (Nat.le_refl _) _).trans (hb1.mono (by simp))
  have h2 := h1.trans (hb2.mono h1.size)
  exact ⟨rfl, h2.trans (hb3.mono h2.size)⟩

set_option maxRecDepth 100000 in
theorem fabricWhat_lifted (os : Os) (started : os.Started) (H : Type) (enc : TypeId × Value → H) :
    ReturnsInHanded {} Try.checked os 3 .any (Rows.fabricWhatSpec.pre6 enc Try.prog Try.f3 Rows.fabricWhatRow.domain false) (Rows.fabricWhatSpec.post enc Try.prog Try.f3 false true false false) := by
  have hr : ∀ t ∈ Try.f3.params.toList, Try.prog.readableRec t = true ∧ t < Try.prog.types.size := by
    have h : Try.f3.params.toList.all (fun t => Try.prog.readableRec t && decide (t < Try.prog.types.size)) = true := by kernel_rfl
    intro t ht
    simpa using List.all_eq_true.1 h t ht
  refine returnsInHanded_of_change (C := Try.checked) own started (by kernel_rfl) Try.func3
    (ChangeSpec.witness6 (enc := enc) (C := Try.checked) false ⟨#[], #[.agg #[.int .i64 0, .int .i64 0, .int .i64 0], .int .i64 0], []⟩ 8 (by kernel_rfl) (by kernel_rfl) (by kernel_rfl) (by kernel_rfl)) ?_
  intro W base args ds gs before hval0 hW hcnd _
  have hval : ∀ (j : Nat) t v, Try.f3.params[j]? = some t → args[j]? = some v → Value.okWide Try.prog W .any base t v := hval0
  have hW' := hW
  obtain ⟨p, q, hA0, hV, rfl, hfz, hnd⟩ := hW
  have hA1 : DataW.TrodAll enc Try.prog W 0 (fun _ => true) true Try.f3.params.toList args.toList ds p := hA0
  have hA := hA1
  rw [Try.params3] at hA hval
  obtain ⟨v0, vs0, d0, ds0, p0, q0, hargs, rfl, rfl, h0, r0⟩ := trodAll_cons hA
  obtain ⟨v1, vs1, d1, ds1, p1, q1, rfl, rfl, rfl, h1, r1⟩ := trodAll_cons r0
  obtain ⟨rfl, rfl, rfl⟩ := trodAll_nil r1
  obtain rfl : args = #[v0, v1] := by cases args; simp_all
  obtain ⟨rfl, rfl⟩ := trodVars_none hV
  obtain ⟨c0, c1, c2, y0, y1, y2, m, rfl, rfl, rfl, hy0, hy1, hy2⟩ := open_agg3 Try.underlying23 (by kernel_rfl) (by kernel_rfl : Try.prog.cellsOf 23 = 3) (hval 0 23 v0 rfl rfl) h0
  obtain ⟨a0_0, e0, rfl, wa0_0⟩ := DataW.trod_int Try.underlying3 hy0
  obtain ⟨a0_1, e1, rfl, wa0_1⟩ := DataW.trod_int Try.underlying3 hy1
  obtain ⟨a0_2, e2, rfl, wa0_2⟩ := DataW.trod_int Try.underlying3 hy2
  simp at e0 e1 e2
  subst e0 e1 e2
  obtain ⟨a1, rfl, rfl, rfl, w1⟩ := open_int Try.underlying3 (hval 1 3 v1 rfl rfl) h1
  clear hA0 hval0
  simp only [List.append_nil] at hW'
  refine (fabricWhat_walk a0_0 a0_1 a0_2 a1 W).mono fun e W' ⟨he, hb⟩ => ?_
  subst he
  exact ⟨_, rfl, law_post laidOut hr rfl hW' hA1 rfl rfl Try.underlying4 hb⟩

theorem fabricWhat_over : Rows.fabricWhatRow.holds Try.pinned (OpenSpec.ofChange Rows.fabricWhatSpec) :=
  OpenClaim.holds_of_wide 3 Try.f3 rfl rfl rfl rfl rfl rfl rfl ⟨rfl, rfl, rfl, rfl, rfl⟩ rfl rfl rfl rfl rfl (by kernel_rfl) Try.func3 (by kernel_rfl)
    (of_decide_eq_true (by kernel_rfl)) (by unfold Func.isWrapper; first | (rw [if_pos (by decide +kernel)]; kernel_rfl) | (rw [if_neg (by decide +kernel)]; exact ⟨rfl, rfl⟩))
    (fun os started H enc _ => fabricWhat_lifted os started H enc)

theorem fabricWhat_holds : Rows.FabricWhatSaid := fabricWhat_over
#print axioms fabricWhat_holds
end Go.Proofs.Ytpfhokhkbedkbaa
