/- For every list of acts and one more: behind a correction the last words that count are the new ones, and a mark is given exactly if words that were taken are corrected. The card: the two listed tables of Go's library read as the program's text lays them; no other condition. -/
import Derived.Test.YtheemefggkcfbaaDoorMF
import Derived.Test.YtheemefggkcfbaaDoorMX
namespace Go.Proofs.YtheemefggkcfbaaDoor
open Go.ChangeShapes Go.WideShapes Go.ChangeAt Go.RowKit
open Go.ChangeMaps (open_string shut_string)
set_option linter.unusedVariables false
set_option maxRecDepth 100000 in
theorem contractRespeakFixes (H : Type) (enc : TypeId × Value → H) (W : World) (base : Nat) (args : Array Value) (ds gs : List (DataW H)) (before : List MemPlace)
    (hval : ∀ (j : Nat) t v, Tryd.f12.params[j]? = some t → args[j]? = some v → Value.okWide Tryd.prog W .any base t v)
    (hW : DataW.Whole enc Tryd.prog Tryd.f12.params.toList Rows.respeakFixesSpec.vars false W args.toList ds gs before)
    (hsz : (DataW.weightsEach Tryd.prog (Tryd.f12.params.toList ++ Rows.respeakFixesSpec.plain.varTypes Tryd.prog) (ds ++ gs)).all (· ≤ reachBytes) = true) (env : Env W) :
    Calls Tryd.prog 12 args W fun e W' => ∃ v, e = .returned v ∧ Rows.respeakFixesSpec.post enc Tryd.prog Tryd.f12 false true false false W args v W' := by
  have hW' := hW
  obtain ⟨p, q, hA0, hV, rfl, hfz, hnd⟩ := hW
  have hA : DataW.TrodAll enc Tryd.prog W 0 (fun _ => true) true Tryd.f12.params.toList args.toList ds p := hA0
  rw [Tryd.params12] at hA hval hsz
  obtain ⟨v0, vs0, d0, ds0, p0, q0, hargs0, rfl, rfl, h0, r0⟩ := trodAll_cons hA
  obtain ⟨v1, vs1, d1, ds1, p1, q1, hargs1, rfl, rfl, h1, r1⟩ := trodAll_cons r0
  obtain ⟨v2, vs2, d2, ds2, p2, q2, hargs2, rfl, rfl, h2, r2⟩ := trodAll_cons r1
  obtain ⟨rfl, rfl, rfl⟩ := trodAll_nil r2
  obtain rfl : args = #[v0, v1, v2] := by cases args; simp_all
  obtain ⟨rfl, rfl⟩ := trodVars_none hV
  obtain ⟨i0, rfl, rfl, rfl, wi0⟩ := open_int Tryd.underlying5 (hval 0 5 v0 rfl rfl) h0
  obtain ⟨k0, rfl, hk0⟩ := byte_in wi0
  obtain ⟨a1, c1, L1, rfl, hn1, hs1, hR1⟩ := open_acts (hval 1 55 v1 rfl rfl) h1
  obtain ⟨k2, n2, s2, rfl, hk2, hz2⟩ := open_actV (hval 2 57 v2 rfl rfl) h2
  clear hA0 hval
  simp only [List.append_nil] at hW'
  refine (law_fixes k0 hk0 a1 c1 L1 k2 n2 s2 W env hR1 hn1 hs1 hk2 hz2).mono fun e W' ⟨he, hb⟩ => ?_
  subst he
  exact ⟨_, rfl, law_post rfl laidOut (by rw [Tryd.params12]; intro t ht; simp only [List.mem_cons, List.not_mem_nil, or_false] at ht; rcases ht with rfl | rfl | rfl <;> first | exact read5 | exact read55 | exact read57) rfl Tryd.underlying4 hW' hb rfl rfl rfl⟩
theorem readsRespeakFixes (os : Os) {H : Type} (enc : TypeId × Value → H) : ∃ places, DataW.whole enc Tryd.prog ((laidWorld os).forCall (fun _ _ => 0) ⟨#[], #[.int .u8 0, .slice none 0 0, .agg #[.int .u8 0, .int .i64 0, .string ⟨#[]⟩]], []⟩).memory Tryd.f12.params.toList Rows.respeakFixesSpec.vars false (#[.int .u8 0, .slice none 0 0, .agg #[.int .u8 0, .int .i64 0, .string ⟨#[]⟩]] : Array Value).toList 8 = some ([.lit (.int .u8 0), .nil, .agg [.lit (.int .u8 0), .lit (.int .i64 0), .lit (.string [])]], [], places) :=
  ⟨[], by kernel_rfl⟩
set_option maxRecDepth 100000 in
theorem liftedRespeakFixes (os : Os) (started : os.Started) (H : Type) (enc : TypeId × Value → H) (F : Stop.Interp) :
    ReturnsInHanded {} Tryd.checked os 12 .any ((OpenSpec.ofChange Rows.respeakFixesSpec).preRow enc Tryd.prog Tryd.f12 Rows.respeakFixesRow.domain false Rows.respeakFixesRow.laid) (((OpenSpec.ofChange Rows.respeakFixesSpec).at F).post enc Tryd.prog Tryd.f12 false true false false) := by
  obtain ⟨places, hx⟩ := readsRespeakFixes os enc
  refine returnsInHanded_of_row (C := Tryd.checked) (s := OpenSpec.ofChange Rows.respeakFixesSpec) own started (by kernel_rfl) Tryd.func12
    (witness_row_at (enc := enc) (C := Tryd.checked) false (laidWorld os) #[.int .u8 0, .slice none 0 0, .agg #[.int .u8 0, .int .i64 0, .string ⟨#[]⟩]] rfl (vars2 os _) (rest2 os _) (by kernel_rfl)
      (OpenSpec.preRow_of_cond 8 hx (by kernel_rfl) (fun k hk => by cases hk) (by kernel_rfl) (met2 os _))) ?_
  intro W base args ds gs before hval hW _ _ hsz hL hS _
  rw [MakeChecks.laidMetH_plain _ _ _ (by kernel_rfl)] at hL
  exact contractRespeakFixes H enc W base args ds gs before hval hW hsz (env_of hL hS (by simp [Rows.respeakFixesRow]) (by simp [Rows.respeakFixesRow]))
theorem saidRespeakFixes : Rows.RespeakFixesSaid :=
  OpenClaim.holds_of_cond 12 Tryd.f12 rfl rfl rfl rfl rfl rfl rfl ⟨rfl, rfl, rfl, rfl, rfl⟩ rfl rfl rfl rfl rfl (by kernel_rfl) Tryd.func12 (by kernel_rfl)
    (of_decide_eq_true (by kernel_rfl)) (by unfold Func.isWrapper; first | (rw [if_pos (by decide +kernel)]; kernel_rfl) | (rw [if_neg (by decide +kernel)]; exact ⟨rfl, rfl⟩))
    (fun os started H enc _ F => by rw [OpenClaim.pre_eq_preRow]; exact liftedRespeakFixes os started H enc F)
theorem plainRespeakFixes (f : FuncId) (fn : Func) (hf : Tryd.pinned.checked.prog.funcNamed "captioner/captionerlaw48.RespeakFixes" = some f) (hfn : Tryd.pinned.checked.prog.funcs[f]? = some fn) :
    false = Tryd.pinned.checked.prog.looks [] ∧ ∀ (j : Nat) t, fn.params[j]? = some t → Tryd.pinned.checked.prog.wantsStandIn t = false := by
  obtain rfl : f = 12 := Option.some.inj ((show Tryd.prog.funcNamed "captioner/captionerlaw48.RespeakFixes" = some 12 by kernel_rfl).symm.trans hf) |>.symm
  obtain rfl : fn = Tryd.f12 := (Option.some.inj (Tryd.func12.symm.trans hfn)).symm
  refine ⟨by kernel_rfl, fun j t ht => ?_⟩
  rw [Tryd.params12] at ht
  have hm : t ∈ [5, 55, 57] := by simpa using Array.mem_of_getElem? ht
  have hall : ([5, 55, 57].all fun u => !Tryd.prog.wantsStandIn u) = true := by kernel_rfl
  exact (show Tryd.prog.wantsStandIn t = false by simpa using List.all_eq_true.1 hall t hm)
theorem cardRespeakFixes : Rows.RespeakFixesCardSaid :=
  Claim7.holds_tied_plain_at .later [] _ _ _ _ saidRespeakFixes (fun _ h => by cases h) (by kernel_rfl) (fun _ h => by cases h) respeakFixes_row_tie rfl ⟨rfl, rfl⟩ (by kernel_rfl) rfl plainRespeakFixes (by kernel_rfl)
#print axioms cardRespeakFixes
end Go.Proofs.YtheemefggkcfbaaDoor
