/- For every list of tokens and every place: the length of all its words is that of two parts and a space. The card: the two listed tables of Go's library read as the program's text lays them; no other condition. -/
import Derived.Test.YtheemefggkcfbaaDoorT15
import Derived.Test.YtheemefggkcfbaaDoorOpenTok
namespace Go.Proofs.YtheemefggkcfbaaDoor
open Go.ChangeShapes Go.WideShapes Go.ChangeAt Go.RowKit
open Go.ChangeMaps (open_string shut_string)
set_option linter.unusedVariables false
set_option maxRecDepth 100000 in
theorem contractTokenAdds (H : Type) (enc : TypeId × Value → H) (W : World) (base : Nat) (args : Array Value) (ds gs : List (DataW H)) (before : List MemPlace)
    (hval : ∀ (j : Nat) t v, Tryd.f5.params[j]? = some t → args[j]? = some v → Value.okWide Tryd.prog W .any base t v)
    (hW : DataW.Whole enc Tryd.prog Tryd.f5.params.toList Rows.tokenAddsSpec.vars false W args.toList ds gs before)
    (hsz : (DataW.weightsEach Tryd.prog (Tryd.f5.params.toList ++ Rows.tokenAddsSpec.plain.varTypes Tryd.prog) (ds ++ gs)).all (· ≤ reachBytes) = true) (env : Env W) :
    Calls Tryd.prog 5 args W fun e W' => ∃ v, e = .returned v ∧ Rows.tokenAddsSpec.post enc Tryd.prog Tryd.f5 false true false false W args v W' := by
  have hW' := hW
  obtain ⟨p, q, hA0, hV, rfl, hfz, hnd⟩ := hW
  have hA : DataW.TrodAll enc Tryd.prog W 0 (fun _ => true) true Tryd.f5.params.toList args.toList ds p := hA0
  rw [Tryd.params5] at hA hval hsz
  obtain ⟨v0, vs0, d0, ds0, p0, q0, hargs0, rfl, rfl, h0, r0⟩ := trodAll_cons hA
  obtain ⟨v1, vs1, d1, ds1, p1, q1, hargs1, rfl, rfl, h1, r1⟩ := trodAll_cons r0
  obtain ⟨rfl, rfl, rfl⟩ := trodAll_nil r1
  obtain rfl : args = #[v0, v1] := by cases args; simp_all
  obtain ⟨rfl, rfl⟩ := trodVars_none hV
  obtain ⟨a0, n0, c0, T0, rfl, hn0, hc0, hR0, hd0⟩ := open_tokens (hval 0 24 v0 rfl rfl) h0
  have hM0 : ∀ x ∈ texts T0, x.length ≤ 140737488355328 := by
    intro x hx
    obtain ⟨y, hy, rfl⟩ := List.mem_map.1 hx
    rcases hd0 with ⟨rfl, rfl⟩ | ⟨sp, rfl⟩
    · cases hy
    · exact Nat.le_trans (sized_tokens hsz y hy) reach_le
  obtain ⟨i1, rfl, rfl, rfl, wi1⟩ := open_int Tryd.underlying3 (hval 1 3 v1 rfl rfl) h1
  clear hA0 hval
  simp only [List.append_nil] at hW'
  refine (law_adds a0 n0 c0 i1 T0 W hn0 hc0 hM0 env hR0).mono fun e W' ⟨he, hb⟩ => ?_
  subst he
  exact ⟨_, rfl, law_post rfl laidOut (by rw [Tryd.params5]; intro t ht; simp only [List.mem_cons, List.not_mem_nil, or_false] at ht; rcases ht with rfl | rfl <;> first | exact read3 | exact read24) rfl Tryd.underlying4 hW' hb rfl rfl rfl⟩
theorem readsTokenAdds (os : Os) {H : Type} (enc : TypeId × Value → H) : ∃ places, DataW.whole enc Tryd.prog ((laidWorld os).forCall (fun _ _ => 0) ⟨#[], #[.slice none 0 0, .int .i64 0], []⟩).memory Tryd.f5.params.toList Rows.tokenAddsSpec.vars false (#[.slice none 0 0, .int .i64 0] : Array Value).toList 8 = some ([.nil, .lit (.int .i64 0)], [], places) :=
  ⟨[], by kernel_rfl⟩
set_option maxRecDepth 100000 in
theorem liftedTokenAdds (os : Os) (started : os.Started) (H : Type) (enc : TypeId × Value → H) (F : Stop.Interp) :
    ReturnsInHanded {} Tryd.checked os 5 .any ((OpenSpec.ofChange Rows.tokenAddsSpec).preRow enc Tryd.prog Tryd.f5 Rows.tokenAddsRow.domain false Rows.tokenAddsRow.laid) (((OpenSpec.ofChange Rows.tokenAddsSpec).at F).post enc Tryd.prog Tryd.f5 false true false false) := by
  obtain ⟨places, hx⟩ := readsTokenAdds os enc
  refine returnsInHanded_of_row (C := Tryd.checked) (s := OpenSpec.ofChange Rows.tokenAddsSpec) own started (by kernel_rfl) Tryd.func5
    (witness_row_at (enc := enc) (C := Tryd.checked) false (laidWorld os) #[.slice none 0 0, .int .i64 0] rfl (vars2 os _) (rest2 os _) (by kernel_rfl)
      (OpenSpec.preRow_of_cond 8 hx (by kernel_rfl) (fun k hk => by cases hk) (by kernel_rfl) (met2 os _))) ?_
  intro W base args ds gs before hval hW _ _ hsz hL hS _
  rw [MakeChecks.laidMetH_plain _ _ _ (by kernel_rfl)] at hL
  exact contractTokenAdds H enc W base args ds gs before hval hW hsz (env_of hL hS (by simp [Rows.tokenAddsRow]) (by simp [Rows.tokenAddsRow]))
theorem saidTokenAdds : Rows.TokenAddsSaid :=
  OpenClaim.holds_of_cond 5 Tryd.f5 rfl rfl rfl rfl rfl rfl rfl ⟨rfl, rfl, rfl, rfl, rfl⟩ rfl rfl rfl rfl rfl (by kernel_rfl) Tryd.func5 (by kernel_rfl)
    (of_decide_eq_true (by kernel_rfl)) (by unfold Func.isWrapper; first | (rw [if_pos (by decide +kernel)]; kernel_rfl) | (rw [if_neg (by decide +kernel)]; exact ⟨rfl, rfl⟩))
    (fun os started H enc _ F => by rw [OpenClaim.pre_eq_preRow]; exact liftedTokenAdds os started H enc F)
theorem plainTokenAdds (f : FuncId) (fn : Func) (hf : Tryd.pinned.checked.prog.funcNamed "captioner/captionerlaw34.TokenAdds" = some f) (hfn : Tryd.pinned.checked.prog.funcs[f]? = some fn) :
    false = Tryd.pinned.checked.prog.looks [] ∧ ∀ (j : Nat) t, fn.params[j]? = some t → Tryd.pinned.checked.prog.wantsStandIn t = false := by
  obtain rfl : f = 5 := Option.some.inj ((show Tryd.prog.funcNamed "captioner/captionerlaw34.TokenAdds" = some 5 by kernel_rfl).symm.trans hf) |>.symm
  obtain rfl : fn = Tryd.f5 := (Option.some.inj (Tryd.func5.symm.trans hfn)).symm
  refine ⟨by kernel_rfl, fun j t ht => ?_⟩
  rw [Tryd.params5] at ht
  have hm : t ∈ [24, 3] := by simpa using Array.mem_of_getElem? ht
  have hall : ([24, 3].all fun u => !Tryd.prog.wantsStandIn u) = true := by kernel_rfl
  exact (show Tryd.prog.wantsStandIn t = false by simpa using List.all_eq_true.1 hall t hm)
theorem cardTokenAdds : Rows.TokenAddsCardSaid :=
  Claim7.holds_tied_plain_at .later [] _ _ _ _ saidTokenAdds (fun _ h => by cases h) (by kernel_rfl) (fun _ h => by cases h) tokenAdds_row_tie rfl ⟨rfl, rfl⟩ (by kernel_rfl) rfl plainTokenAdds (by kernel_rfl)
#print axioms cardTokenAdds
end Go.Proofs.YtheemefggkcfbaaDoor
