/- For every number: more words than the limit are refused, and nothing is lost. The card: the two listed tables of Go's library read as the program's text lays them; no other condition. -/
import Derived.Test.YtheemefggkcfbaaDoorML
import Derived.Test.YtheemefggkcfbaaDoorMO
namespace Go.Proofs.YtheemefggkcfbaaDoor
open Go.ChangeShapes Go.WideShapes Go.ChangeAt Go.RowKit
open Go.ChangeMaps (open_string shut_string)
set_option linter.unusedVariables false
set_option maxRecDepth 100000 in
theorem contractRespeakLimits (H : Type) (enc : TypeId × Value → H) (W : World) (base : Nat) (args : Array Value) (ds gs : List (DataW H)) (before : List MemPlace)
    (hval : ∀ (j : Nat) t v, Tryd.f11.params[j]? = some t → args[j]? = some v → Value.okWide Tryd.prog W .any base t v)
    (hW : DataW.Whole enc Tryd.prog Tryd.f11.params.toList Rows.respeakLimitsSpec.vars false W args.toList ds gs before)
    (hsz : (DataW.weightsEach Tryd.prog (Tryd.f11.params.toList ++ Rows.respeakLimitsSpec.plain.varTypes Tryd.prog) (ds ++ gs)).all (· ≤ reachBytes) = true) (env : Env W) :
    Calls Tryd.prog 11 args W fun e W' => ∃ v, e = .returned v ∧ Rows.respeakLimitsSpec.post enc Tryd.prog Tryd.f11 false true false false W args v W' := by
  have hW' := hW
  obtain ⟨p, q, hA0, hV, rfl, hfz, hnd⟩ := hW
  have hA : DataW.TrodAll enc Tryd.prog W 0 (fun _ => true) true Tryd.f11.params.toList args.toList ds p := hA0
  rw [Tryd.params11] at hA hval hsz
  obtain ⟨v0, vs0, d0, ds0, p0, q0, hargs0, rfl, rfl, h0, r0⟩ := trodAll_cons hA
  obtain ⟨rfl, rfl, rfl⟩ := trodAll_nil r0
  obtain rfl : args = #[v0] := by cases args; simp_all
  obtain ⟨rfl, rfl⟩ := trodVars_none hV
  obtain ⟨i0, rfl, rfl, rfl, wi0⟩ := open_int Tryd.underlying47 (hval 0 47 v0 rfl rfl) h0
  obtain ⟨k0, rfl, hk0⟩ := word_in wi0
  clear hA0 hval
  simp only [List.append_nil] at hW'
  refine (law_limits k0 hk0 W env).mono fun e W' ⟨he, hb⟩ => ?_
  subst he
  exact ⟨_, rfl, law_post rfl laidOut (by rw [Tryd.params11]; intro t ht; simp only [List.mem_cons, List.not_mem_nil, or_false] at ht; subst ht; exact read47) rfl Tryd.underlying4 hW' hb rfl rfl rfl⟩
theorem readsRespeakLimits (os : Os) {H : Type} (enc : TypeId × Value → H) : ∃ places, DataW.whole enc Tryd.prog ((laidWorld os).forCall (fun _ _ => 0) ⟨#[], #[.int .u16 0], []⟩).memory Tryd.f11.params.toList Rows.respeakLimitsSpec.vars false (#[.int .u16 0] : Array Value).toList 8 = some ([.lit (.int .u16 0)], [], places) :=
  ⟨[], by kernel_rfl⟩
set_option maxRecDepth 100000 in
theorem liftedRespeakLimits (os : Os) (started : os.Started) (H : Type) (enc : TypeId × Value → H) (F : Stop.Interp) :
    ReturnsInHanded {} Tryd.checked os 11 .any ((OpenSpec.ofChange Rows.respeakLimitsSpec).preRow enc Tryd.prog Tryd.f11 Rows.respeakLimitsRow.domain false Rows.respeakLimitsRow.laid) (((OpenSpec.ofChange Rows.respeakLimitsSpec).at F).post enc Tryd.prog Tryd.f11 false true false false) := by
  obtain ⟨places, hx⟩ := readsRespeakLimits os enc
  refine returnsInHanded_of_row (C := Tryd.checked) (s := OpenSpec.ofChange Rows.respeakLimitsSpec) own started (by kernel_rfl) Tryd.func11
    (witness_row_at (enc := enc) (C := Tryd.checked) false (laidWorld os) #[.int .u16 0] rfl (vars2 os _) (rest2 os _) (by kernel_rfl)
      (OpenSpec.preRow_of_cond 8 hx (by kernel_rfl) (fun k hk => by cases hk) (by kernel_rfl) (met2 os _))) ?_
  intro W base args ds gs before hval hW _ _ hsz hL hS _
  rw [MakeChecks.laidMetH_plain _ _ _ (by kernel_rfl)] at hL
  exact contractRespeakLimits H enc W base args ds gs before hval hW hsz (env_of hL hS (by simp [Rows.respeakLimitsRow]) (by simp [Rows.respeakLimitsRow]))
theorem saidRespeakLimits : Rows.RespeakLimitsSaid :=
  OpenClaim.holds_of_cond 11 Tryd.f11 rfl rfl rfl rfl rfl rfl rfl ⟨rfl, rfl, rfl, rfl, rfl⟩ rfl rfl rfl rfl rfl (by kernel_rfl) Tryd.func11 (by kernel_rfl)
    (of_decide_eq_true (by kernel_rfl)) (by unfold Func.isWrapper; first | (rw [if_pos (by decide +kernel)]; kernel_rfl) | (rw [if_neg (by decide +kernel)]; exact ⟨rfl, rfl⟩))
    (fun os started H enc _ F => by rw [OpenClaim.pre_eq_preRow]; exact liftedRespeakLimits os started H enc F)
theorem plainRespeakLimits (f : FuncId) (fn : Func) (hf : Tryd.pinned.checked.prog.funcNamed "captioner/captionerlaw48.RespeakLimits" = some f) (hfn : Tryd.pinned.checked.prog.funcs[f]? = some fn) :
    false = Tryd.pinned.checked.prog.looks [] ∧ ∀ (j : Nat) t, fn.params[j]? = some t → Tryd.pinned.checked.prog.wantsStandIn t = false := by
  obtain rfl : f = 11 := Option.some.inj ((show Tryd.prog.funcNamed "captioner/captionerlaw48.RespeakLimits" = some 11 by kernel_rfl).symm.trans hf) |>.symm
  obtain rfl : fn = Tryd.f11 := (Option.some.inj (Tryd.func11.symm.trans hfn)).symm
  refine ⟨by kernel_rfl, fun j t ht => ?_⟩
  rw [Tryd.params11] at ht
  have hm : t ∈ [47] := by simpa using Array.mem_of_getElem? ht
  have hall : ([47].all fun u => !Tryd.prog.wantsStandIn u) = true := by kernel_rfl
  exact (show Tryd.prog.wantsStandIn t = false by simpa using List.all_eq_true.1 hall t hm)
theorem cardRespeakLimits : Rows.RespeakLimitsCardSaid :=
  Claim7.holds_tied_plain_at .later [] _ _ _ _ saidRespeakLimits (fun _ h => by cases h) (by kernel_rfl) (fun _ h => by cases h) respeakLimits_row_tie rfl ⟨rfl, rfl⟩ (by kernel_rfl) rfl plainRespeakLimits (by kernel_rfl)
#print axioms cardRespeakLimits
end Go.Proofs.YtheemefggkcfbaaDoor
