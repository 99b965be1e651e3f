/- For all pairs of types by numbers and for every depth, the law CheckSame returns true, and its arguments read afterwards as they read before. No condition. -/
import Derived.Test.YtadbikomcolndaaGreatSameB
import Derived.WalkKit
import Derived.ProofKit
import Derived.OpenShut
set_option linter.unusedVariables false
namespace Go.LX
theorem csSums_ok (hmix : Go.Proofs.Tryz.prog.follows .mixedOrders = true) : ∀ f s, csSums.get f = some s → SumSound Go.Proofs.Tryz.prog s f :=
  sums_put sums_nil (cmemo_sound hmix (csums_ok hmix) (List.forall_mem_cons.2 ⟨s14, fun _ h => absurd h List.not_mem_nil⟩))
theorem i64_fix {n : Int} (h : -9223372036854775808 ≤ n ∧ n ≤ 9223372036854775807) : IntKind.i64.wrap n = n := wrap_fix.2 h
theorem mod_ev {vals : List Value} {i : Nat} {n m : Int} (h : vals[i]? = some (.int .i64 n)) (hm : 0 < m) (hm' : m ≤ 1000) :
    ∃ c, 0 ≤ c ∧ c < m ∧ (csMod i m).ev (phiV vals) = some c := by
  have h1 : (n.tmod m).natAbs < m.natAbs := by rw [Int.natAbs_tmod]; exact Nat.mod_lt _ (by omega)
  have h2 : 0 ≤ n.tmod m + m := by omega
  refine ⟨(n.tmod m + m).tmod m, Int.tmod_nonneg _ h2, Int.tmod_lt_of_pos _ hm, ?_⟩
  have e1 : (SE.op .rem .i64 (.v (posOf i)) (.c m)).ev (phiV vals) = some (n.tmod m) := by
    simp only [SE.ev, phiV_get h, Option.bind_some, opI]; rw [if_neg (by omega)]
  have e2 : (SE.op .add .i64 (.op .rem .i64 (.v (posOf i)) (.c m)) (.c m)).ev (phiV vals) = some (n.tmod m + m) := by
    rw [SE.ev, e1]; simp only [SE.ev, Option.bind_some, opI]; rw [i64_fix (by omega)]
  unfold csMod
  rw [SE.ev, e2]; simp only [SE.ev, Option.bind_some, opI]; rw [if_neg (by omega)]
theorem all_at {p : Int → Int → Bool} {a b : Int} (h : cs4.all (fun x => p x.1 x.2) = true) (hm : (a, b) ∈ cs4) : p a b = true := List.all_eq_true.1 h (a, b) hm
theorem cs_run {a b d : Int} (ha : 0 ≤ a ∧ a < 4) (hb : 0 ≤ b ∧ b < 4) (hd : 0 ≤ d ∧ d < 5) : csRun a b d = true := by
  have hm : (a, b) ∈ cs4 := by
    have : a = 0 ∨ a = 1 ∨ a = 2 ∨ a = 3 := by omega
    have : b = 0 ∨ b = 1 ∨ b = 2 ∨ b = 3 := by omega
    rcases ‹a = 0 ∨ _› with rfl | rfl | rfl | rfl <;> rcases ‹b = 0 ∨ _› with rfl | rfl | rfl | rfl <;> simp [cs4]
  have hd' : d = 0 ∨ d = 1 ∨ d = 2 ∨ d = 3 ∨ d = 4 := by omega
  rcases hd' with rfl | rfl | rfl | rfl | rfl
  · exact all_at (p := fun a b => csRun a b 0) cs0 hm
  · exact all_at (p := fun a b => csRun a b 1) cs1 hm
  · exact all_at (p := fun a b => csRun a b 2) cs2 hm
  · exact all_at (p := fun a b => csRun a b 3) cs3 hm
  · exact all_at (p := fun a b => csRun a b 4) cs4' hm
theorem cs_calls (hmix : Go.Proofs.Tryz.prog.follows .mixedOrders = true) (a0 a1 a2 b0 b1 b2 d : Int) (h : ∀ z ∈ [a0, a1, a2, b0, b1, b2, d], (Lit.int .i64 z).wf = true) (w : World) :
    Calls Go.Proofs.Tryz.prog 4 #[.agg #[.int .i64 a0, .int .i64 a1, .int .i64 a2], .agg #[.int .i64 b0, .int .i64 b1, .int .i64 b2], .int .i64 d] w fun e w' => e = .returned (.bool true) ∧ RowKit.Below w.heap.size w w' := by
  let vals : List Value := [.int .i64 a0, .int .i64 a1, .int .i64 a2, .int .i64 b0, .int .i64 b1, .int .i64 b2, .int .i64 d]
  obtain ⟨x, hx0, hx1, hx⟩ := mod_ev (vals := vals) (i := 2) (n := a2) (m := 4) rfl (by decide) (by decide)
  obtain ⟨y, hy0, hy1, hy⟩ := mod_ev (vals := vals) (i := 5) (n := b2) (m := 4) rfl (by decide) (by decide)
  obtain ⟨z, hz0, hz1, hz⟩ := mod_ev (vals := vals) (i := 6) (n := d) (m := 5) rfl (by decide) (by decide)
  have hF : FactsOk (phiV vals) (csF x y z) := by
    intro f hf
    simp only [csF, List.mem_cons, List.not_mem_nil, or_false] at hf
    rcases hf with rfl | rfl | rfl
    · exact ⟨x, hx, rfl⟩
    · exact ⟨y, hy, rfl⟩
    · exact ⟨z, hz, rfl⟩
  have hv : ∀ {i : Nat} {n : Int}, vals[i]? = some (.int .i64 n) → n ∈ [a0, a1, a2, b0, b1, b2, d] → Rel (phiV vals) (csV i) (.int .i64 n) := fun hi hn => rel_var hi (wrap_of_wf (h _ hn))
  have hr : Rels (phiV vals) csArgs [.agg #[.int .i64 a0, .int .i64 a1, .int .i64 a2], .agg #[.int .i64 b0, .int .i64 b1, .int .i64 b2], .int .i64 d] := by
    refine .cons (.agg (xs := [_, _, _]) (.cons (hv rfl (by simp)) (.cons (hv rfl (by simp)) (.cons (hv rfl (by simp)) .nil)))) (.cons (.agg (xs := [_, _, _]) (.cons (hv rfl (by simp)) (.cons (hv rfl (by simp)) (.cons (hv rfl (by simp)) .nil)))) (.cons (hv rfl (by simp)) .nil))
  exact calls_true hmix (csSums_ok hmix) hF hr (cs_run ⟨hx0, hx1⟩ ⟨hy0, hy1⟩ ⟨hz0, hz1⟩)
end Go.LX
namespace Go.Proofs.YtadbikomcolndaaGreat.same
open Go.ChangeShapes Go.WideShapes Go.ChangeAt Go.RowKit
theorem own : ownKnob Tryz.prog.godebug = none := by kernel_rfl
theorem mix : Tryz.prog.follows .mixedOrders = true := by kernel_rfl
theorem cells42 : Tryz.prog.cellsOf 42 = 3 := by kernel_rfl
theorem cells3 : Tryz.prog.cellsOf 3 = 1 := by kernel_rfl
set_option maxRecDepth 100000 in
theorem contract (H : Type) (enc : TypeId × Value → H) (W : World) (base : Nat) (args : Array Value) (ds gs : List (DataW H)) (before : List MemPlace)
    (hval : ∀ (j : Nat) t v, Tryz.f4.params[j]? = some t → args[j]? = some v → Value.okWide Tryz.prog W .any base t v)
    (hW : DataW.Whole enc Tryz.prog Tryz.f4.params.toList Rows.checkSameSpec.vars false W args.toList ds gs before) :
    Calls Tryz.prog 4 args W fun e W' => ∃ v, e = .returned v ∧ Rows.checkSameSpec.post enc Tryz.prog Tryz.f4 false true false false W args v W' := by
  have hW' := hW
  obtain ⟨p, q, hA0, hV, rfl, hfz, hnd⟩ := hW
  have hA : DataW.TrodAll enc Tryz.prog W 0 (fun _ => true) true Tryz.f4.params.toList args.toList ds p := hA0
  rw [Tryz.params4] at hA hval
  obtain ⟨v0, vs0, d0, ds0, p0, q0, hargs, rfl, rfl, h0, r0⟩ := trodAll_cons hA
  obtain ⟨v1, vs1, d1, ds1, p1, q1, hargs1, rfl, rfl, h1, r1⟩ := trodAll_cons r0
  obtain ⟨v2, vs2, d2, ds2, p2, q2, hargs2, rfl, rfl, h2, r2⟩ := trodAll_cons r1
  obtain ⟨rfl, rfl, rfl⟩ := trodAll_nil r2
  obtain rfl : args = #[v0, v1, v2] := by cases args; simp_all
  obtain ⟨rfl, rfl⟩ := trodVars_none hV
  have o0 : Value.okWide Tryz.prog W .any base 42 v0 := hval 0 42 v0 rfl rfl
  have o1 : Value.okWide Tryz.prog W .any base 42 v1 := hval 1 42 v1 rfl rfl
  have o2 : Value.okWide Tryz.prog W .any base 3 v2 := hval 2 3 v2 rfl rfl
  obtain ⟨zs, hzl, rfl, hzw, rfl, hz⟩ := Go.LX.open_row (P := Tryz.prog) Tryz.underlying42 Tryz.underlying3 cells3 cells42 o0 h0
  obtain ⟨ws, hwl, rfl, hww, rfl, hw⟩ := Go.LX.open_row (P := Tryz.prog) Tryz.underlying42 Tryz.underlying3 cells3 cells42 o1 h1
  obtain ⟨d, rfl, rfl, rfl, wd⟩ := open_int Tryz.underlying3 o2 h2
  clear hA0
  simp only [List.append_nil] at hW'
  obtain ⟨a0, a1, a2, rfl⟩ : ∃ a b c, zs = [a, b, c] := by
    match zs, hzl with
    | [a, b, c], _ => exact ⟨a, b, c, rfl⟩
  obtain ⟨b0, b1, b2, rfl⟩ : ∃ a b c, ws = [a, b, c] := by
    match ws, hwl with
    | [a, b, c], _ => exact ⟨a, b, c, rfl⟩
  refine (Go.LX.cs_calls mix a0 a1 a2 b0 b1 b2 d (fun z hzm => ?_) W).mono fun e W' ⟨he, hg⟩ => ?_
  · simp only [List.mem_cons, List.not_mem_nil, or_false] at hzm
    rcases hzm with rfl | rfl | rfl | rfl | rfl | rfl | rfl
    · exact hzw _ (by simp)
    · exact hzw _ (by simp)
    · exact hzw _ (by simp)
    · exact hww _ (by simp)
    · exact hww _ (by simp)
    · exact hww _ (by simp)
    · exact wd
  subst he
  exact ⟨_, rfl, Go.LX.post_below (pa := []) (pv := []) hW' (fun _ _ _ => (trodAll_cons_mk (shut_bool Tryz.underlying4 _) trodAll_mk0))
    (fun sp _ => (trodAll_cons_mk (hz W' 0 sp true) (trodAll_cons_mk (hw W' 0 sp true) (trodAll_cons_mk (shut_int Tryz.underlying3 wd) trodAll_mk0)))) (fun _ _ => rfl) rfl
    hg (ok_one (by kernel_rfl) rfl (okWide_bool_mk Tryz.underlying4 _))⟩
set_option maxRecDepth 100000 in
theorem lifted (os : Os) (started : os.Started) (H : Type) (enc : TypeId × Value → H) :
    ReturnsInHanded {} Tryz.checked os 4 .any (Rows.checkSameSpec.pre6 enc Tryz.prog Tryz.f4 Rows.checkSameRow.domain false) (Rows.checkSameSpec.post enc Tryz.prog Tryz.f4 false true false false) := by
  refine returnsInHanded_of_change (C := Tryz.checked) own started (by kernel_rfl) Tryz.func4
    (ChangeSpec.witness6 (enc := enc) (C := Tryz.checked) false ⟨#[], #[.agg #[.int .i64 0, .int .i64 0, .int .i64 0], .agg #[.int .i64 0, .int .i64 0, .int .i64 0], .int .i64 0], []⟩ 8 (by kernel_rfl) (by kernel_rfl) (by kernel_rfl) (by kernel_rfl)) ?_
  intro W base args ds gs before hval hW _ _
  exact contract H enc W base args ds gs before hval hW
theorem holds : Rows.CheckSameSaid :=
  OpenClaim.holds_of_wide 4 Tryz.f4 rfl rfl rfl rfl rfl rfl rfl ⟨rfl, rfl, rfl, rfl, rfl⟩ rfl rfl rfl rfl rfl (by kernel_rfl) Tryz.func4 (by kernel_rfl)
    (of_decide_eq_true (by kernel_rfl)) (by unfold Func.isWrapper; first | (rw [if_pos (by decide +kernel)]; kernel_rfl) | (rw [if_neg (by decide +kernel)]; exact ⟨rfl, rfl⟩))
    (fun os started H enc _ => lifted os started H enc)
end Go.Proofs.YtadbikomcolndaaGreat.same
