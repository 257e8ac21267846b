/- For every document of bulk at most 1048576: it answers true, and the document reads as it did. The card: the five listed tables of Go's library read as the program's text lays them; no other condition. -/
import Derived.Test.YtgiaohccebolpaaGreatDoorQ23
namespace Go.Proofs.YtgiaohccebolpaaGreatDoor
open Go.ChangeShapes Go.WideShapes Go.ChangeAt Go.RowKit
open Go.ChangeMaps (open_string shut_string)
set_option linter.unusedVariables false
set_option maxRecDepth 100000 in
theorem contractTopCarriedTextUpto (H : Type) (enc : TypeId × Value → H) (W : World) (base : Nat) (args : Array Value) (ds gs : List (DataW H)) (before : List MemPlace)
    (hval : ∀ (j : Nat) t v, Tryz.f3.params[j]? = some t → args[j]? = some v → Value.okWide Tryz.prog W .any base t v)
    (hW : DataW.Whole enc Tryz.prog Tryz.f3.params.toList Rows.topCarriedTextSpec.vars false W args.toList ds gs before)
    (env : Env W) (hcond : Rows.uptoSmall H (ds ++ gs) = true) :
    Calls Tryz.prog 3 args W fun e W' => ∃ v, e = .returned v ∧ Rows.topCarriedTextSpec.post enc Tryz.prog Tryz.f3 false true false false W args v W' := by
  have hW' := hW
  obtain ⟨p, q, hA0, hV, rfl, hfz, hnd⟩ := hW
  have hA : DataW.TrodAll enc Tryz.prog W 0 (fun _ => true) true Tryz.f3.params.toList args.toList ds p := hA0
  rw [Tryz.params3] at hA hval
  obtain ⟨v0, vs0, d0, ds0, p0, q0, hargs0, rfl, rfl, h0, r0⟩ := trodAll_cons hA
  obtain ⟨rfl, rfl, rfl⟩ := trodAll_nil r0
  obtain rfl : args = #[v0] := by cases args; simp_all
  obtain ⟨rfl, rfl⟩ := trodVars_none hV
  obtain ⟨D, hD, hF⟩ := open_doc (fun _ => rfl) (hval 0 27 v0 rfl rfl) h0
  have hb0 : Rows.uptoBulk d0 ≤ 1048576 := by
    have hb := of_decide_eq_true hcond
    simp only [List.append_nil, Rows.uptoBulkAll] at hb
    omega
  clear hA0 hval
  simp only [List.append_nil] at hW'
  refine (law_any v0 D W hD (hF hb0) env).mono fun e W' ⟨he, hb⟩ => ?_
  subst he
  exact ⟨_, rfl, law_post rfl laidOut (by rw [Tryz.params3]; intro t ht; simp only [List.mem_cons, List.not_mem_nil, or_false] at ht; subst ht; exact read27) rfl Tryz.underlying4 hW' hb rfl rfl rfl⟩
abbrev docArg : Value := .agg #[.string ⟨#[]⟩, .string ⟨#[]⟩, .int .u8 0, .bool false, .int .i64 0, .slice none 0 0, .slice none 0 0, .slice none 0 0]
theorem readsTopCarriedTextUpto (os : Os) {H : Type} (enc : TypeId × Value → H) : ∃ places, DataW.whole enc Tryz.prog ((laidWorld os).forCall (fun _ _ => 0) ⟨#[], #[docArg], []⟩).memory Tryz.f3.params.toList Rows.topCarriedTextSpec.vars false (#[docArg] : Array Value).toList 8 =
    some ([.agg [.lit (.string []), .lit (.string []), .lit (.int .u8 0), .lit (.bool false), .lit (.int .i64 0), .nil, .nil, .nil]], [], places) :=
  ⟨[], by kernel_rfl⟩
set_option maxRecDepth 100000 in
theorem liftedTopCarriedTextUpto (os : Os) (started : os.Started) (H : Type) (enc : TypeId × Value → H) (F : Stop.Interp) :
    ReturnsInHanded {} Tryz.checked os 3 .any ((Rows.OpenSpec.upto Rows.topCarriedTextSpec).preRow enc Tryz.prog Tryz.f3 Rows.topCarriedTextUptoRow.domain false Rows.topCarriedTextUptoRow.laid) (((Rows.OpenSpec.upto Rows.topCarriedTextSpec).at F).post enc Tryz.prog Tryz.f3 false true false false) := by
  obtain ⟨places, hx⟩ := readsTopCarriedTextUpto os enc
  refine returnsInHanded_of_row (C := Tryz.checked) (s := Rows.OpenSpec.upto Rows.topCarriedTextSpec) own started (by kernel_rfl) Tryz.func3
    (witness_row_at (enc := enc) (C := Tryz.checked) false (laidWorld os) #[docArg] rfl (vars5 os _) (rest5 os _) (by kernel_rfl)
      (OpenSpec.preRow_of_cond 8 hx (by kernel_rfl) (fun k hk => by cases hk; kernel_rfl) (by kernel_rfl) (met5 os _))) ?_
  intro W base args ds gs before hval hW _ hcond hsz hL hS _
  rw [MakeChecks.laidMetH_plain _ _ _ (by kernel_rfl)] at hL
  exact contractTopCarriedTextUpto H enc W base args ds gs before hval hW (env_of hL hS) (hcond _ rfl)
theorem saidTopCarriedTextUpto : Rows.TopCarriedTextUptoSaid :=
  OpenClaim.holds_of_cond 3 Tryz.f3 rfl rfl rfl rfl rfl rfl rfl ⟨rfl, rfl, rfl, rfl, rfl⟩ rfl rfl rfl rfl rfl (by kernel_rfl) Tryz.func3 (by kernel_rfl)
    (of_decide_eq_true (by kernel_rfl)) (by unfold Func.isWrapper; first | (rw [if_pos (by decide +kernel)]; kernel_rfl) | (rw [if_neg (by decide +kernel)]; exact ⟨rfl, rfl⟩))
    (fun os started H enc _ F => by rw [OpenClaim.pre_eq_preRow]; exact liftedTopCarriedTextUpto os started H enc F)
theorem plainTopCarriedTextUpto (f : FuncId) (fn : Func) (hf : Tryz.pinned.checked.prog.funcNamed "captioner/captionertop.TopCarriedText" = some f) (hfn : Tryz.pinned.checked.prog.funcs[f]? = some fn) :
    false = Tryz.pinned.checked.prog.looks [] ∧ ∀ (j : Nat) t, fn.params[j]? = some t → Tryz.pinned.checked.prog.wantsStandIn t = false := by
  obtain rfl : f = 3 := Option.some.inj ((show Tryz.prog.funcNamed "captioner/captionertop.TopCarriedText" = some 3 by kernel_rfl).symm.trans hf) |>.symm
  obtain rfl : fn = Tryz.f3 := (Option.some.inj (Tryz.func3.symm.trans hfn)).symm
  refine ⟨by kernel_rfl, fun j t ht => ?_⟩
  rw [Tryz.params3] at ht
  have hm : t ∈ [27] := by simpa using Array.mem_of_getElem? ht
  have hall : ([27].all fun u => !Tryz.prog.wantsStandIn u) = true := by kernel_rfl
  exact (show Tryz.prog.wantsStandIn t = false by simpa using List.all_eq_true.1 hall t hm)
theorem cardTopCarriedTextUpto : Rows.TopCarriedTextUptoCardSaid :=
  Claim7.holds_tied_plain_at .later [] _ _ _ _ saidTopCarriedTextUpto (fun _ h => by cases h) (by kernel_rfl) (fun _ h => by cases h) topCarriedTextUpto_row_tie rfl ⟨rfl, rfl⟩ (by kernel_rfl) rfl plainTopCarriedTextUpto (by kernel_rfl)
#print axioms cardTopCarriedTextUpto
end Go.Proofs.YtgiaohccebolpaaGreatDoor
