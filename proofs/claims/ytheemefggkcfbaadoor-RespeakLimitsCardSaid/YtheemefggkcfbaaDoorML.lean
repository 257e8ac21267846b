import Derived.Test.YtheemefggkcfbaaDoorME
import Derived.Test.YtheemefggkcfbaaDoorMP
import Derived.Maps.OwnOps
import Derived.Maps.Keyed
namespace Go.Proofs.YtheemefggkcfbaaDoor
open Go Go.Lib Go.RowKit Go.Shelf Go.Maps
/-! ### a map that the law makes, in a drawn region -/
section
variable {P : Program} {ops : Array Oper} {Q : Exit → Act → World → Prop} {md : Region.Mode} {S : World → Prop} {m : Nat}
/-- Three may come up. -/
theorem wpAnyT_three {i j l : Nat} {oi oj ol : Oper} {fuel : Nat} {listed : Array Bool} {a : Act} {w : World} (hr : Region.ready md ops listed = [i, j, l]) (hi : ops[i]? = some oi) (hj : ops[j]? = some oj) (hl : ops[l]? = some ol)
    (h1 : ∀ K' : Act → World → Prop, Shut (∀ a w, S w → (S w → wpAnyT P md ops Q S m fuel (listed.setIfInBounds i true) a w) → K' a w) → if Region.wanted oi (yielded ops a.tmps) = true then Oper.wp P oi a w K' Q else K' (a.put oi.dst undef) w)
    (h2 : ∀ K' : Act → World → Prop, Shut (∀ a w, S w → (S w → wpAnyT P md ops Q S m fuel (listed.setIfInBounds j true) a w) → K' a w) → if Region.wanted oj (yielded ops a.tmps) = true then Oper.wp P oj a w K' Q else K' (a.put oj.dst undef) w)
    (h3 : ∀ K' : Act → World → Prop, Shut (∀ a w, S w → (S w → wpAnyT P md ops Q S m fuel (listed.setIfInBounds l true) a w) → K' a w) → if Region.wanted ol (yielded ops a.tmps) = true then Oper.wp P ol a w K' Q else K' (a.put ol.dst undef) w) :
    wpAnyT P md ops Q S m (fuel + 1) listed a w := by
  refine ⟨fun h0 => (by rw [h0] at hr; cases hr), fun k hk => ?_⟩
  rw [hr, List.mem_cons, List.mem_cons, List.mem_singleton] at hk
  rcases hk with rfl | rfl | rfl
  · exact wpOp_step hi (fun K' hK => h1 K' (fun a w hS hW => hK a w ⟨fun _ => hS, hW hS⟩))
  · exact wpOp_step hj (fun K' hK => h2 K' (fun a w hS hW => hK a w ⟨fun _ => hS, hW hS⟩))
  · exact wpOp_step hl (fun K' hK => h3 K' (fun a w hS hW => hK a w ⟨fun _ => hS, hW hS⟩))
variable {o : Oper} {a : Act} {w : World} {K : Act → World → Prop} {E : Prop}
theorem wanted_plain (hgd : o.guard = none) : Region.wanted o (yielded ops a.tmps) = true := by simp [Region.wanted, hgd]
theorem step_makeMap (hgd : o.guard = none) (t : TypeId) (ho : o.op = .makeMap t none) (h : K (a.put o.dst (.map (some w.heap.size))) (w.alloc (.map #[] 0))) :
    if Region.wanted o (yielded ops a.tmps) = true then Oper.wp P o a w K Q else E := by
  rw [if_pos (wanted_plain hgd)]
  unfold Oper.wp
  simp [execOp, ho, run_makeMap, Result.andThen]
  exact h
theorem step_insert {H : Type} (hgd : o.guard = none) (mm x v : Operand) (t : TypeId) (hop : o.op = Op.insert t mm x v)
    (k e : TypeId) (KD : Keyed P k) (ht : P.underlying t = some (.map k e)) (R : Value → Option (DataW H × List MemPlace)) (b n : Nat) (D : DataW H)
    (hm : a.eval mm = .map (some b)) (hown : w.ownsMap P k R b n D) (hn : n < maxLen) (key val : Value) (kl : Lit) (hx : a.eval x = key) (hv : a.eval v = val) (hkey : keyOf P k key = some kl)
    (d : DataW H) (ps : List MemPlace) (hval : R val = some (d, ps))
    (h : ∀ w', w'.ownsMap P k R b (n + 1) (D.put kl d) → w.grownBy w' (some b) → K (a.put o.dst undef) w') :
    if Region.wanted o (yielded ops a.tmps) = true then Oper.wp P o a w K Q else E := by
  rw [if_pos (wanted_plain hgd)]
  obtain ⟨w', hrun, r1, r2⟩ := hown.update KD ht hn hkey hval
  unfold Oper.wp
  simp [execOp, hop, hm, hx, hv, hrun, Result.andThen]
  exact h w' r1 r2
theorem step_lookup {H : Type} (hgd : o.guard = none) (mm x : Operand) (t : TypeId) (hop : o.op = Op.lookup t mm x false)
    (k e : TypeId) (q : IntKind) (KD : Keyed P k) (ht : P.underlying t = some (.map k e)) (he : P.underlying e = some (.int q)) (hz : (zeroValue e).run P w = .ok (.int q 0) w) (b n : Nat) (D : DataW H)
    (hm : a.eval mm = .map (some b)) (hown : w.ownsMap P k (plainElem P e) b n D) (key : Value) (kl : Lit) (hx : a.eval x = key) (hkey : keyOf P k key = some kl) (c0 : Int) (hc : D.atKey kl (.lit (.int q 0)) = .lit (.int q c0))
    (h : K (a.put o.dst (.int q c0)) w) :
    if Region.wanted o (yielded ops a.tmps) = true then Oper.wp P o a w K Q else E := by
  rw [if_pos (wanted_plain hgd)]
  obtain ⟨c, hrun, hat, _⟩ := hown.lookup_int KD ht he hz hkey
  have hcc : c = c0 := by
    rw [hc] at hat
    injection hat with hat
    injection hat with _ hat
    exact hat.symm
  subst hcc
  unfold Oper.wp
  simp [execOp, hop, hm, hx, hrun, Result.andThen]
  exact h
end
section
variable {w0 w w' : World} {b B n : Nat} {S : Sp} {D : DataW Unit}
/-- A speaker, and the law's own map. -/
def LiAt (w0 w : World) (b : Nat) (S : Sp) (B n : Nat) (D : DataW Unit) : Prop :=
  ∃ F, Ow w0 w b S F ∧ F B ∧ w0.heap.size ≤ B ∧ w.ownsMap Tryd.prog 4 (plainElem Tryd.prog 3) B n D
theorem grown_of {r : Option Nat} (hb : Below w.heap.size w w') : w.grownBy w' r := ⟨hb.os, hb.tape, hb.output, hb.size, fun k hk _ => hb.block k hk⟩
theorem LiAt.dn (h : LiAt w0 w b S B n D) : Below w0.heap.size w0 w := by obtain ⟨_, h1, _⟩ := h; exact h1.dn
theorem LiAt.map (h : LiAt w0 w b S B n D) : w.ownsMap Tryd.prog 4 (plainElem Tryd.prog 3) B n D := by obtain ⟨_, _, _, _, h1⟩ := h; exact h1
theorem li_make (h : ∃ F, Ow w0 w b S F) : LiAt w0 (w.alloc (.map #[] 0)) b S w.heap.size 0 (.map []) := by
  obtain ⟨F, h⟩ := h
  exact ⟨_, h.below (below1 _ (Nat.le_refl _)), Or.inr ⟨Nat.le_refl _, by simp⟩, h.dn.size, World.ownsMap_made _ _ _ _⟩
theorem LiAt.ins {n' : Nat} {D' : DataW Unit} (h : LiAt w0 w b S B n D) (hm : w'.ownsMap Tryd.prog 4 (plainElem Tryd.prog 3) B n' D') (hg : w.grownBy w' (some B)) : LiAt w0 w' b S B n' D' := by
  obtain ⟨F, h1, h2, h3, _⟩ := h
  exact ⟨_, h1.grown hg (fun k e => by injection e with e; subst e; exact ⟨h2, h3⟩), Or.inl h2, h3, hm⟩
theorem li_open0 (h : ∃ F, Ow w0 w b S F) (hS : S.ok) : Calls Tryd.prog 39 #[ptr b] w fun e w' => ∃ a c, e = .returned (.slice a S.opn.length c) ∧ ∃ F, Ow w0 w' b S F := by
  obtain ⟨F, h⟩ := h
  refine (open_ow h hS).mono ?_
  rintro e w' ⟨v, rfl, ho, hA, _⟩
  obtain ⟨a, c, rfl⟩ := own_len ho
  exact ⟨a, c, rfl, _, hA⟩
theorem LiAt.opens (h : LiAt w0 w b S B n D) (hS : S.ok) : Calls Tryd.prog 39 #[ptr b] w fun e w' => ∃ a c, e = .returned (.slice a S.opn.length c) ∧ LiAt w0 w' b S B n D := by
  obtain ⟨F, h, h2, h3, h4⟩ := h
  refine (open_ow h hS).mono ?_
  rintro e w' ⟨v, rfl, ho, hA, hb⟩
  obtain ⟨a, c, rfl⟩ := own_len ho
  exact ⟨a, c, rfl, _, hA, Or.inl h2, h3, h4.kept (grown_of (r := none) hb) (by simp)⟩
end
end Go.Proofs.YtheemefggkcfbaaDoor
namespace Go.Proofs.YtheemefggkcfbaaDoor
open Go Go.Lib Go.RowKit Go.Shelf Go.Maps
/-! ### more words than are let in -/
theorem li1 : spkE [97] = 0 ∧ (spkL [97]).length = 1 := ⟨by kernel_rfl, by kernel_rfl⟩
theorem li2 : spkE [98, 32, 99] = 0 ∧ (spkL [98, 32, 99]).length = 2 := ⟨by kernel_rfl, by kernel_rfl⟩
theorem say_len {S : Sp} {l : List UInt8} {n : Nat} (h : spkE l = 0 ∧ (spkL l).length = n) : ((S.say l).2 = if 400 < S.opn.length + n then 9 else 0) ∧ (S.say l).1.opn.length = if 400 < S.opn.length + n then S.opn.length else S.opn.length + n := by
  by_cases hf : 400 < S.opn.length + (spkL l).length
  · rw [say_full h.1 hf]
    rw [h.2] at hf
    rw [if_pos hf, if_pos hf]
    exact ⟨rfl, rfl⟩
  · rw [say_good h.1 hf]
    rw [h.2] at hf
    rw [if_neg hf, if_neg hf]
    refine ⟨rfl, ?_⟩
    show (S.opn ++ newW S.brk false (spkL l)).length = _
    rw [List.length_append, newW_len, h.2]
set_option maxHeartbeats 8000000 in
set_option maxRecDepth 100000 in
theorem law_limits (k : Nat) (hk : k < 65536) (w : World) (hE : Env w) :
    Calls Tryd.prog 11 #[.int .u16 k] w fun e w' => e = .returned (.bool true) ∧ Below w.heap.size w w' := by
  go_enter Tryd.func11, Tryd.ntmps11
  go_wp2_with fail
  refine (awake_any w hE).mono ?_
  rintro e w1 ⟨rfl, hb1⟩
  go_wp2_with fail
  refine (new_ow (w0 := w) 16 (by decide) hb1).mono ?_
  rintro e w2 ⟨b, rfl, hA, hb2⟩
  have A := Lib.hid (hA.weaken (G := fun _ => False) (fun _ h => h.elim))
  clear hA hb1 hb2
  go_wp2_with fail
  rw [show ((k : Int) % 20 + 385) = ((k % 20 + 385 : Nat) : Int) by omega]
  obtain ⟨N, hN⟩ : ∃ N, N = k % 20 + 385 := ⟨_, rfl⟩
  have hN1 : 385 ≤ N := by omega
  have hN2 : N ≤ 404 := by omega
  rw [← hN]
  clear hN hk
  go_loopw [20] (fun iv wx => ∃ (i : Nat) (S : Sp), iv = .int .i64 i ∧ i ≤ N ∧ S.ok ∧ S.opn.length = min i 400 ∧ Hid (Ow w wx b S (fun _ => False))) (fun v _ => N - (intOf v).toNat)
  case atStart => exact ⟨0, Sp.new 16, rfl, by omega, new_ok (by decide), by simp [Sp.new], A⟩
  case round =>
    clear A
    obtain ⟨i, S, rfl, hiN, hS, hSl, A⟩ := hrel
    by_cases hlt : i < N
    · have hz : (i : Int) < (N : Int) := by omega
      go_wp2_with fail
      refine (say_ow A.out hS ⟨#[97]⟩ (by decide) hE).mono ?_
      rintro e w3 ⟨rfl, hA, _⟩
      have A2 := Lib.hid hA
      have hl := (say_len (S := S) li1).2
      have hS' := say_ok hS [97]
      have hl2 : (S.say [97]).1.opn.length = min (i + 1) 400 := by
        rw [hl]
        split <;> omega
      clear A hA hl
      generalize (S.say (⟨#[97]⟩ : ByteArray).data.toList).2 = Z
      go_wp2_with fail
      go_roundw
      case rel => exact ⟨i + 1, (S.say [97]).1, by go_num, by omega, hS', hl2, A2⟩
      case measure => simp [intOf]; omega
    · obtain rfl : i = N := by omega
      have hz : ¬ (i : Int) < (i : Int) := by omega
      go_wp2_with fail
      refine (say_ow A.out hS ⟨#[98, 32, 99]⟩ (by decide) hE).mono ?_
      rintro e w3 ⟨rfl, hA, _⟩
      obtain ⟨hz1, hz2⟩ := say_len (S := S) li2
      have hS' := say_ok hS [98, 32, 99]
      have A2 : Hid (Ow w w3 b (S.say [98, 32, 99]).1 (fun _ => False)) := Lib.hid hA
      clear A hA
      rw [show (S.say (⟨#[98, 32, 99]⟩ : ByteArray).data.toList).2 = _ from hz1]
      generalize (S.say [98, 32, 99]).1 = T at *
      clear hz1
      by_cases hc : i + 2 ≤ 400
      · rw [if_neg (by omega)] at hz2 ⊢
        have hT : T.opn.length = i + 2 := by omega
        clear hz2 hSl hS
        go_upto_region 12 with fail
        have hmn : min (i : Int) 400 = (i : Int) := by omega
        have hw : IntKind.i64.wrap ((i : Int) + 2) = (i : Int) + 2 := IntWalk.i64_in _ (by omega)
        have hd : decide ((i : Int) + 2 ≤ 400) = true := by simp; omega
        have hw2 : ∀ z : Int, z + 0 = z := fun z => Int.add_zero z
        have hw3 : (0 : Int) + 0 = 0 := rfl
        have he : ((T.opn.length : Int) == (i : Int) + 2) = true := by rw [hT]; simp
        have A2 := Lib.hid (⟨_, A2.out.drew⟩ : ∃ F, Ow w w3.drew b T F)
        refine wp_region_tail 24 (S := fun _ => True) (by kernel_rfl) trivial (fun hHeld => ?_)
        clear hHeld
        simp only [List.size_toArray, List.length_cons, List.length_nil, Nat.zero_add, Nat.reduceAdd]
        refine wpAnyT_take (i := 0) (oi := { dst := some 27, op := Go.Op.move (Go.Operand.tmp 3), type := 48, pos := "law.go:227", after := #[], guard := none }) (v := ?_) rfl (by kernel_rfl) (by kernel_rfl) (by kernel_rfl) (by kernel_rfl) (fun _ _ _ h => h) (Or.inl ⟨by rfl, ?_⟩) trivial ?_
        rotate_left
        · intro w hSw
          clear hSw
          go_simp
          all_goals (with_reducible rfl)
        try simp only [Act.put, List.setIfInBounds_toArray, List.set_cons_zero, List.set_cons_succ]
        refine wpAnyT_take (i := 3) (oi := { dst := some 30, op := Go.Op.move (Go.Operand.tmp 5), type := 3, pos := "law.go:227", after := #[], guard := none }) (v := ?_) rfl (by kernel_rfl) (by kernel_rfl) (by kernel_rfl) (by kernel_rfl) (fun _ _ _ h => h) (Or.inl ⟨by rfl, ?_⟩) trivial ?_
        rotate_left
        · intro w hSw
          clear hSw
          go_simp
          all_goals (with_reducible rfl)
        try simp only [Act.put, List.setIfInBounds_toArray, List.set_cons_zero, List.set_cons_succ]
        refine wpAnyT_take (i := 4) (oi := { dst := some 31, op := Go.Op.call { callee := Go.Callee.builtin Go.Builtin.min, args := #[Go.Operand.tmp 30, Go.Operand.const (Go.Value.int Go.IntKind.i64 400)], argTypes := #[3, 3] }, type := 3, pos := "law.go:227", after := #[{ on := 3, ground := Go.Ground.data }], guard := none }) (v := ?_) rfl (by kernel_rfl) (by kernel_rfl) (by kernel_rfl) (by kernel_rfl) (fun _ _ _ h => h) (Or.inl ⟨by rfl, ?_⟩) trivial ?_
        rotate_left
        · intro w hSw
          clear hSw
          go_simp
          all_goals (with_reducible rfl)
        try simp only [Act.put, List.setIfInBounds_toArray, List.set_cons_zero, List.set_cons_succ]
        try simp only [hmn]
        refine wpAnyT_take (i := 9) (oi := { dst := some 34, op := Go.Op.move (Go.Operand.tmp 5), type := 3, pos := "law.go:227", after := #[], guard := none }) (v := ?_) rfl (by kernel_rfl) (by kernel_rfl) (by kernel_rfl) (by kernel_rfl) (fun _ _ _ h => h) (Or.inl ⟨by rfl, ?_⟩) trivial ?_
        rotate_left
        · intro w hSw
          clear hSw
          go_simp
          all_goals (with_reducible rfl)
        try simp only [Act.put, List.setIfInBounds_toArray, List.set_cons_zero, List.set_cons_succ]
        refine wpAnyT_take (i := 10) (oi := { dst := some 35, op := Go.Op.binOp Go.BinOp.add 3 (Go.Operand.tmp 34) (Go.Operand.const (Go.Value.int Go.IntKind.i64 2)) 3, type := 3, pos := "law.go:227", after := #[{ on := 9, ground := Go.Ground.data }], guard := none }) (v := ?_) rfl (by kernel_rfl) (by kernel_rfl) (by kernel_rfl) (by kernel_rfl) (fun _ _ _ h => h) (Or.inl ⟨by rfl, ?_⟩) trivial ?_
        rotate_left
        · intro w hSw
          clear hSw
          go_simp
          all_goals (with_reducible rfl)
        try simp only [Act.put, List.setIfInBounds_toArray, List.set_cons_zero, List.set_cons_succ]
        try simp only [hw]
        refine wpAnyT_take (i := 11) (oi := { dst := some 36, op := Go.Op.binOp Go.BinOp.leq 3 (Go.Operand.tmp 35) (Go.Operand.const (Go.Value.int Go.IntKind.i64 400)) 3, type := 4, pos := "law.go:227", after := #[{ on := 10, ground := Go.Ground.data }], guard := none }) (v := ?_) rfl (by kernel_rfl) (by kernel_rfl) (by kernel_rfl) (by kernel_rfl) (fun _ _ _ h => h) (Or.inl ⟨by rfl, ?_⟩) trivial ?_
        rotate_left
        · intro w hSw
          clear hSw
          go_simp
          all_goals (with_reducible rfl)
        try simp only [Act.put, List.setIfInBounds_toArray, List.set_cons_zero, List.set_cons_succ]
        try simp only [hd]
        refine wpAnyT_two (i := 1) (j := 5) (oi := { dst := some 28, op := Go.Op.call { callee := Go.Callee.value (Go.Operand.func 39), args := #[Go.Operand.tmp 27], argTypes := #[48] }, type := 51, pos := "law.go:227", after := #[{ on := 0, ground := Go.Ground.data }], guard := none }) (oj := { dst := some 32, op := Go.Op.makeMap 53 none, type := 53, pos := "law.go:227", after := #[], guard := none }) (by kernel_rfl) rfl rfl (fun K hK => ?_) (fun K hK => ?_)
        · go_simp
          go_at_call 39
          refine (li_open0 A2.out hS').mono ?_
          rintro e w8 ⟨a8, c8, rfl, hA8⟩
          have A2 := Lib.hid hA8
          clear hA8
          go_wp2_with fail
          refine hK.out _ _ trivial (fun hHeld => ?_)
          clear hHeld hK K
          try simp only [Act.put, List.setIfInBounds_toArray, List.set_cons_zero, List.set_cons_succ]
          refine wpAnyT_take (i := 2) (oi := { dst := some 29, op := Go.Op.call { callee := Go.Callee.builtin Go.Builtin.len, args := #[Go.Operand.tmp 28], argTypes := #[51] }, type := 3, pos := "law.go:227", after := #[{ on := 1, ground := Go.Ground.data }], guard := none }) (v := ?_) rfl (by kernel_rfl) (by kernel_rfl) (by kernel_rfl) (by kernel_rfl) (fun _ _ _ h => h) (Or.inl ⟨by rfl, ?_⟩) trivial ?_
          rotate_left
          · intro w hSw
            clear hSw
            go_simp
            all_goals (with_reducible rfl)
          try simp only [Act.put, List.setIfInBounds_toArray, List.set_cons_zero, List.set_cons_succ]
          refine wpAnyT_one (i := 5) (o := { dst := some 32, op := Go.Op.makeMap 53 none, type := 53, pos := "law.go:227", after := #[], guard := none }) (by kernel_rfl) rfl (fun K hK => ?_)
          refine step_makeMap (by rfl) 53 (by rfl) ?_
          have Z2 := Lib.hid (li_make A2.out)
          refine hK.out _ _ trivial (fun hHeld => ?_)
          clear hHeld hK K
          try simp only [Act.put, List.setIfInBounds_toArray, List.set_cons_zero, List.set_cons_succ]
          refine wpAnyT_two (i := 6) (j := 7) (oi := { dst := none, op := Go.Op.insert 53 (Go.Operand.tmp 32) (Go.Operand.const (Go.Value.bool true)) (Go.Operand.const (Go.Value.int Go.IntKind.i64 2)), type := 0, pos := "law.go:227", after := #[{ on := 5, ground := Go.Ground.data }], guard := none }) (oj := { dst := none, op := Go.Op.insert 53 (Go.Operand.tmp 32) (Go.Operand.const (Go.Value.bool false)) (Go.Operand.const (Go.Value.int Go.IntKind.i64 0)), type := 0, pos := "law.go:227", after := #[{ on := 5, ground := Go.Ground.data }], guard := none }) (by kernel_rfl) rfl rfl (fun K hK => ?_) (fun K hK => ?_)
          · refine step_insert (H := Unit) (by rfl) _ _ _ 53 (by rfl) 4 3 (bool_keyed Tryd.underlying4) Tryd.underlying53 (plainElem Tryd.prog 3) _ _ _ (by rfl) Z2.out.map (by unfold maxLen; decide) _ _ (.bool true) (by rfl) (by rfl) (keyOf_bool_mk Tryd.underlying4 true) (.lit (.int .i64 2)) [] (plainElem_int Tryd.underlying3 (by decide)) ?_
            intro w9 hm9 hg9
            have Z2 := Lib.hid (Z2.out.ins hm9 hg9)
            clear hm9 hg9
            refine hK.out _ _ trivial (fun hHeld => ?_)
            clear hHeld hK K
            try simp only [Act.put]
            refine wpAnyT_one (i := 7) (o := { dst := none, op := Go.Op.insert 53 (Go.Operand.tmp 32) (Go.Operand.const (Go.Value.bool false)) (Go.Operand.const (Go.Value.int Go.IntKind.i64 0)), type := 0, pos := "law.go:227", after := #[{ on := 5, ground := Go.Ground.data }], guard := none }) (by kernel_rfl) rfl (fun K hK => ?_)
            refine step_insert (H := Unit) (by rfl) _ _ _ 53 (by rfl) 4 3 (bool_keyed Tryd.underlying4) Tryd.underlying53 (plainElem Tryd.prog 3) _ _ _ (by rfl) Z2.out.map (by unfold maxLen; decide) _ _ (.bool false) (by rfl) (by rfl) (keyOf_bool_mk Tryd.underlying4 false) (.lit (.int .i64 0)) [] (plainElem_int Tryd.underlying3 (by decide)) ?_
            intro w9 hm9 hg9
            have Z2 := Lib.hid (Z2.out.ins hm9 hg9)
            clear hm9 hg9
            refine hK.out _ _ trivial (fun hHeld => ?_)
            clear hHeld hK K
            try simp only [Act.put]
            refine wpAnyT_take (i := 8) (oi := { dst := some 33, op := Go.Op.move (Go.Operand.tmp 32), type := 53, pos := "law.go:227", after := #[{ on := 5, ground := Go.Ground.data }, { on := 6, ground := Go.Ground.data }, { on := 7, ground := Go.Ground.data }], guard := none }) (v := ?_) rfl (by kernel_rfl) (by kernel_rfl) (by kernel_rfl) (by kernel_rfl) (fun _ _ _ h => h) (Or.inl ⟨by rfl, ?_⟩) trivial ?_
            rotate_left
            · intro w hSw
              clear hSw
              go_simp
              all_goals (with_reducible rfl)
            try simp only [Act.put, List.setIfInBounds_toArray, List.set_cons_zero, List.set_cons_succ]
            refine wpAnyT_one (i := 12) (o := { dst := some 37, op := Go.Op.lookup 53 (Go.Operand.tmp 33) (Go.Operand.tmp 36) false, type := 3, pos := "law.go:227", after := #[{ on := 8, ground := Go.Ground.data }, { on := 11, ground := Go.Ground.data }], guard := none }) (by kernel_rfl) rfl (fun K hK => ?_)
            refine step_lookup (H := Unit) (by rfl) _ _ 53 (by rfl) 4 3 .i64 (bool_keyed Tryd.underlying4) Tryd.underlying53 Tryd.underlying3 (Tryd.zeroValue3 _) _ _ _ (by rfl) Z2.out.map _ (.bool true) (by rfl) (keyOf_bool_mk Tryd.underlying4 true) 2 (by rfl) ?_
            refine hK.out _ _ trivial (fun hHeld => ?_)
            clear hHeld hK K
            try simp only [Act.put, List.setIfInBounds_toArray, List.set_cons_zero, List.set_cons_succ]
            refine wpAnyT_take (i := 13) (oi := { dst := some 38, op := Go.Op.binOp Go.BinOp.add 3 (Go.Operand.tmp 31) (Go.Operand.tmp 37) 3, type := 3, pos := "law.go:227", after := #[{ on := 4, ground := Go.Ground.data }, { on := 12, ground := Go.Ground.data }], guard := none }) (v := ?_) rfl (by kernel_rfl) (by kernel_rfl) (by kernel_rfl) (by kernel_rfl) (fun _ _ _ h => h) (Or.inl ⟨by rfl, ?_⟩) trivial ?_
            rotate_left
            · intro w hSw
              clear hSw
              go_simp
              all_goals (with_reducible rfl)
            try simp only [Act.put, List.setIfInBounds_toArray, List.set_cons_zero, List.set_cons_succ]
            try simp only [hw]
            try simp only [hw3]
            try simp only [hw2]
            refine wpAnyT_take (i := 14) (oi := { dst := some 39, op := Go.Op.binOp Go.BinOp.eql 3 (Go.Operand.tmp 29) (Go.Operand.tmp 38) 3, type := 4, pos := "law.go:227", after := #[{ on := 2, ground := Go.Ground.data }, { on := 13, ground := Go.Ground.data }], guard := none }) (v := ?_) rfl (by kernel_rfl) (by kernel_rfl) (by kernel_rfl) (by kernel_rfl) (fun _ _ _ h => h) (Or.inl ⟨by rfl, ?_⟩) trivial ?_
            rotate_left
            · intro w hSw
              clear hSw
              go_simp
              all_goals (with_reducible rfl)
            try simp only [Act.put, List.setIfInBounds_toArray, List.set_cons_zero, List.set_cons_succ]
            try simp only [he]
            refine wpAnyT_take (i := 15) (oi := { dst := some 40, op := Go.Op.move (Go.Operand.tmp 39), type := 4, pos := "law.go:227", after := #[{ on := 14, ground := Go.Ground.data }, { on := 1, ground := Go.Ground.chain }], guard := none }) (v := ?_) rfl (by kernel_rfl) (by kernel_rfl) (by kernel_rfl) (by kernel_rfl) (fun _ _ _ h => h) (Or.inl ⟨by rfl, ?_⟩) trivial ?_
            rotate_left
            · intro w hSw
              clear hSw
              go_simp
              all_goals (with_reducible rfl)
            try simp only [Act.put, List.setIfInBounds_toArray, List.set_cons_zero, List.set_cons_succ]
            refine wpAnyT_take (i := 16) (oi := { dst := some 41, op := Go.Op.move (Go.Operand.tmp 6), type := 25, pos := "law.go:227", after := #[{ on := 15, ground := Go.Ground.guard }], guard := some (15, true) }) (v := ?_) rfl (by kernel_rfl) (by kernel_rfl) (by kernel_rfl) (by kernel_rfl) (fun _ _ _ h => h) (Or.inl ⟨by rfl, ?_⟩) trivial ?_
            rotate_left
            · intro w hSw
              clear hSw
              go_simp
              all_goals (with_reducible rfl)
            try simp only [Act.put, List.setIfInBounds_toArray, List.set_cons_zero, List.set_cons_succ]
            refine wpAnyT_take (i := 17) (oi := { dst := some 42, op := Go.Op.binOp Go.BinOp.eql 25 (Go.Operand.tmp 41) (Go.Operand.const (Go.Value.int Go.IntKind.i64 0)) 25, type := 4, pos := "law.go:227", after := #[{ on := 16, ground := Go.Ground.data }, { on := 15, ground := Go.Ground.guard }], guard := some (15, true) }) (v := ?_) rfl (by kernel_rfl) (by kernel_rfl) (by kernel_rfl) (by kernel_rfl) (fun _ _ _ h => h) (Or.inl ⟨by rfl, ?_⟩) trivial ?_
            rotate_left
            · intro w hSw
              clear hSw
              go_simp
              all_goals (with_reducible rfl)
            try simp only [Act.put, List.setIfInBounds_toArray, List.set_cons_zero, List.set_cons_succ]
            refine wpAnyT_take (i := 18) (oi := { dst := some 43, op := Go.Op.move (Go.Operand.tmp 5), type := 3, pos := "law.go:227", after := #[{ on := 15, ground := Go.Ground.guard }], guard := some (15, true) }) (v := ?_) rfl (by kernel_rfl) (by kernel_rfl) (by kernel_rfl) (by kernel_rfl) (fun _ _ _ h => h) (Or.inl ⟨by rfl, ?_⟩) trivial ?_
            rotate_left
            · intro w hSw
              clear hSw
              go_simp
              all_goals (with_reducible rfl)
            try simp only [Act.put, List.setIfInBounds_toArray, List.set_cons_zero, List.set_cons_succ]
            refine wpAnyT_take (i := 19) (oi := { dst := some 44, op := Go.Op.binOp Go.BinOp.add 3 (Go.Operand.tmp 43) (Go.Operand.const (Go.Value.int Go.IntKind.i64 2)) 3, type := 3, pos := "law.go:227", after := #[{ on := 18, ground := Go.Ground.data }, { on := 15, ground := Go.Ground.guard }], guard := some (15, true) }) (v := ?_) rfl (by kernel_rfl) (by kernel_rfl) (by kernel_rfl) (by kernel_rfl) (fun _ _ _ h => h) (Or.inl ⟨by rfl, ?_⟩) trivial ?_
            rotate_left
            · intro w hSw
              clear hSw
              go_simp
              all_goals (with_reducible rfl)
            try simp only [Act.put, List.setIfInBounds_toArray, List.set_cons_zero, List.set_cons_succ]
            refine wpAnyT_take (i := 20) (oi := { dst := some 45, op := Go.Op.binOp Go.BinOp.leq 3 (Go.Operand.tmp 44) (Go.Operand.const (Go.Value.int Go.IntKind.i64 400)) 3, type := 4, pos := "law.go:227", after := #[{ on := 19, ground := Go.Ground.data }, { on := 15, ground := Go.Ground.guard }], guard := some (15, true) }) (v := ?_) rfl (by kernel_rfl) (by kernel_rfl) (by kernel_rfl) (by kernel_rfl) (fun _ _ _ h => h) (Or.inl ⟨by rfl, ?_⟩) trivial ?_
            rotate_left
            · intro w hSw
              clear hSw
              go_simp
              all_goals (with_reducible rfl)
            try simp only [Act.put, List.setIfInBounds_toArray, List.set_cons_zero, List.set_cons_succ]
            refine wpAnyT_take (i := 21) (oi := { dst := some 46, op := Go.Op.binOp Go.BinOp.eql 4 (Go.Operand.tmp 42) (Go.Operand.tmp 45) 4, type := 4, pos := "law.go:227", after := #[{ on := 17, ground := Go.Ground.data }, { on := 20, ground := Go.Ground.data }, { on := 15, ground := Go.Ground.guard }], guard := some (15, true) }) (v := ?_) rfl (by kernel_rfl) (by kernel_rfl) (by kernel_rfl) (by kernel_rfl) (fun _ _ _ h => h) (Or.inl ⟨by rfl, ?_⟩) trivial ?_
            rotate_left
            · intro w hSw
              clear hSw
              go_simp
              all_goals (with_reducible rfl)
            try simp only [Act.put, List.setIfInBounds_toArray, List.set_cons_zero, List.set_cons_succ]
            refine wpAnyT_take (i := 22) (oi := { dst := some 47, op := Go.Op.pick (Go.Operand.tmp 40) (Go.Operand.tmp 46) (Go.Operand.const (Go.Value.bool false)), type := 4, pos := "law.go:227", after := #[{ on := 15, ground := Go.Ground.data }, { on := 21, ground := Go.Ground.data }], guard := none }) (v := ?_) rfl (by kernel_rfl) (by kernel_rfl) (by kernel_rfl) (by kernel_rfl) (fun _ _ _ h => h) (Or.inl ⟨by rfl, ?_⟩) trivial ?_
            rotate_left
            · intro w hSw
              clear hSw
              go_simp
              all_goals (with_reducible rfl)
            try simp only [Act.put, List.setIfInBounds_toArray, List.set_cons_zero, List.set_cons_succ]
            refine wpAnyT_take (i := 23) (oi := { dst := some 2, op := Go.Op.assign (Go.Operand.tmp 47), type := 4, pos := "law.go:227", after := #[{ on := 22, ground := Go.Ground.data }, { on := 15, ground := Go.Ground.chain }, { on := 0, ground := Go.Ground.phase }, { on := 1, ground := Go.Ground.phase }, { on := 2, ground := Go.Ground.phase }, { on := 3, ground := Go.Ground.phase }, { on := 4, ground := Go.Ground.phase }, { on := 5, ground := Go.Ground.phase }, { on := 6, ground := Go.Ground.phase }, { on := 7, ground := Go.Ground.phase }, { on := 8, ground := Go.Ground.phase }, { on := 9, ground := Go.Ground.phase }, { on := 10, ground := Go.Ground.phase }, { on := 11, ground := Go.Ground.phase }, { on := 12, ground := Go.Ground.phase }, { on := 13, ground := Go.Ground.phase }, { on := 14, ground := Go.Ground.phase }, { on := 15, ground := Go.Ground.phase }, { on := 16, ground := Go.Ground.phase }, { on := 17, ground := Go.Ground.phase }, { on := 18, ground := Go.Ground.phase }, { on := 19, ground := Go.Ground.phase }, { on := 20, ground := Go.Ground.phase }, { on := 21, ground := Go.Ground.phase }, { on := 22, ground := Go.Ground.phase }], guard := none }) (v := ?_) rfl (by kernel_rfl) (by kernel_rfl) (by kernel_rfl) (by kernel_rfl) (fun _ _ _ h => h) (Or.inl ⟨by rfl, ?_⟩) trivial ?_
            rotate_left
            · intro w hSw
              clear hSw
              go_simp
              all_goals (with_reducible rfl)
            try simp only [Act.put, List.setIfInBounds_toArray, List.set_cons_zero, List.set_cons_succ]
            refine wpAnyT_done (by kernel_rfl) ?_ _
            go_wp2_with fail
            go_ret
            exact ⟨rfl, Z2.out.dn⟩
          · refine step_insert (H := Unit) (by rfl) _ _ _ 53 (by rfl) 4 3 (bool_keyed Tryd.underlying4) Tryd.underlying53 (plainElem Tryd.prog 3) _ _ _ (by rfl) Z2.out.map (by unfold maxLen; decide) _ _ (.bool false) (by rfl) (by rfl) (keyOf_bool_mk Tryd.underlying4 false) (.lit (.int .i64 0)) [] (plainElem_int Tryd.underlying3 (by decide)) ?_
            intro w9 hm9 hg9
            have Z2 := Lib.hid (Z2.out.ins hm9 hg9)
            clear hm9 hg9
            refine hK.out _ _ trivial (fun hHeld => ?_)
            clear hHeld hK K
            try simp only [Act.put]
            refine wpAnyT_one (i := 6) (o := { dst := none, op := Go.Op.insert 53 (Go.Operand.tmp 32) (Go.Operand.const (Go.Value.bool true)) (Go.Operand.const (Go.Value.int Go.IntKind.i64 2)), type := 0, pos := "law.go:227", after := #[{ on := 5, ground := Go.Ground.data }], guard := none }) (by kernel_rfl) rfl (fun K hK => ?_)
            refine step_insert (H := Unit) (by rfl) _ _ _ 53 (by rfl) 4 3 (bool_keyed Tryd.underlying4) Tryd.underlying53 (plainElem Tryd.prog 3) _ _ _ (by rfl) Z2.out.map (by unfold maxLen; decide) _ _ (.bool true) (by rfl) (by rfl) (keyOf_bool_mk Tryd.underlying4 true) (.lit (.int .i64 2)) [] (plainElem_int Tryd.underlying3 (by decide)) ?_
            intro w9 hm9 hg9
            have Z2 := Lib.hid (Z2.out.ins hm9 hg9)
            clear hm9 hg9
            refine hK.out _ _ trivial (fun hHeld => ?_)
            clear hHeld hK K
            try simp only [Act.put]
            refine wpAnyT_take (i := 8) (oi := { dst := some 33, op := Go.Op.move (Go.Operand.tmp 32), type := 53, pos := "law.go:227", after := #[{ on := 5, ground := Go.Ground.data }, { on := 6, ground := Go.Ground.data }, { on := 7, ground := Go.Ground.data }], guard := none }) (v := ?_) rfl (by kernel_rfl) (by kernel_rfl) (by kernel_rfl) (by kernel_rfl) (fun _ _ _ h => h) (Or.inl ⟨by rfl, ?_⟩) trivial ?_
            rotate_left
            · intro w hSw
              clear hSw
              go_simp
              all_goals (with_reducible rfl)
            try simp only [Act.put, List.setIfInBounds_toArray, List.set_cons_zero, List.set_cons_succ]
            refine wpAnyT_one (i := 12) (o := { dst := some 37, op := Go.Op.lookup 53 (Go.Operand.tmp 33) (Go.Operand.tmp 36) false, type := 3, pos := "law.go:227", after := #[{ on := 8, ground := Go.Ground.data }, { on := 11, ground := Go.Ground.data }], guard := none }) (by kernel_rfl) rfl (fun K hK => ?_)
            refine step_lookup (H := Unit) (by rfl) _ _ 53 (by rfl) 4 3 .i64 (bool_keyed Tryd.underlying4) Tryd.underlying53 Tryd.underlying3 (Tryd.zeroValue3 _) _ _ _ (by rfl) Z2.out.map _ (.bool true) (by rfl) (keyOf_bool_mk Tryd.underlying4 true) 2 (by rfl) ?_
            refine hK.out _ _ trivial (fun hHeld => ?_)
            clear hHeld hK K
            try simp only [Act.put, List.setIfInBounds_toArray, List.set_cons_zero, List.set_cons_succ]
            refine wpAnyT_take (i := 13) (oi := { dst := some 38, op := Go.Op.binOp Go.BinOp.add 3 (Go.Operand.tmp 31) (Go.Operand.tmp 37) 3, type := 3, pos := "law.go:227", after := #[{ on := 4, ground := Go.Ground.data }, { on := 12, ground := Go.Ground.data }], guard := none }) (v := ?_) rfl (by kernel_rfl) (by kernel_rfl) (by kernel_rfl) (by kernel_rfl) (fun _ _ _ h => h) (Or.inl ⟨by rfl, ?_⟩) trivial ?_
            rotate_left
            · intro w hSw
              clear hSw
              go_simp
              all_goals (with_reducible rfl)
            try simp only [Act.put, List.setIfInBounds_toArray, List.set_cons_zero, List.set_cons_succ]
            try simp only [hw]
            try simp only [hw3]
            try simp only [hw2]
            refine wpAnyT_take (i := 14) (oi := { dst := some 39, op := Go.Op.binOp Go.BinOp.eql 3 (Go.Operand.tmp 29) (Go.Operand.tmp 38) 3, type := 4, pos := "law.go:227", after := #[{ on := 2, ground := Go.Ground.data }, { on := 13, ground := Go.Ground.data }], guard := none }) (v := ?_) rfl (by kernel_rfl) (by kernel_rfl) (by kernel_rfl) (by kernel_rfl) (fun _ _ _ h => h) (Or.inl ⟨by rfl, ?_⟩) trivial ?_
            rotate_left
            · intro w hSw
              clear hSw
              go_simp
              all_goals (with_reducible rfl)
            try simp only [Act.put, List.setIfInBounds_toArray, List.set_cons_zero, List.set_cons_succ]
            try simp only [he]
            refine wpAnyT_take (i := 15) (oi := { dst := some 40, op := Go.Op.move (Go.Operand.tmp 39), type := 4, pos := "law.go:227", after := #[{ on := 14, ground := Go.Ground.data }, { on := 1, ground := Go.Ground.chain }], guard := none }) (v := ?_) rfl (by kernel_rfl) (by kernel_rfl) (by kernel_rfl) (by kernel_rfl) (fun _ _ _ h => h) (Or.inl ⟨by rfl, ?_⟩) trivial ?_
            rotate_left
            · intro w hSw
              clear hSw
              go_simp
              all_goals (with_reducible rfl)
            try simp only [Act.put, List.setIfInBounds_toArray, List.set_cons_zero, List.set_cons_succ]
            refine wpAnyT_take (i := 16) (oi := { dst := some 41, op := Go.Op.move (Go.Operand.tmp 6), type := 25, pos := "law.go:227", after := #[{ on := 15, ground := Go.Ground.guard }], guard := some (15, true) }) (v := ?_) rfl (by kernel_rfl) (by kernel_rfl) (by kernel_rfl) (by kernel_rfl) (fun _ _ _ h => h) (Or.inl ⟨by rfl, ?_⟩) trivial ?_
            rotate_left
            · intro w hSw
              clear hSw
              go_simp
              all_goals (with_reducible rfl)
            try simp only [Act.put, List.setIfInBounds_toArray, List.set_cons_zero, List.set_cons_succ]
            refine wpAnyT_take (i := 17) (oi := { dst := some 42, op := Go.Op.binOp Go.BinOp.eql 25 (Go.Operand.tmp 41) (Go.Operand.const (Go.Value.int Go.IntKind.i64 0)) 25, type := 4, pos := "law.go:227", after := #[{ on := 16, ground := Go.Ground.data }, { on := 15, ground := Go.Ground.guard }], guard := some (15, true) }) (v := ?_) rfl (by kernel_rfl) (by kernel_rfl) (by kernel_rfl) (by kernel_rfl) (fun _ _ _ h => h) (Or.inl ⟨by rfl, ?_⟩) trivial ?_
            rotate_left
            · intro w hSw
              clear hSw
              go_simp
              all_goals (with_reducible rfl)
            try simp only [Act.put, List.setIfInBounds_toArray, List.set_cons_zero, List.set_cons_succ]
            refine wpAnyT_take (i := 18) (oi := { dst := some 43, op := Go.Op.move (Go.Operand.tmp 5), type := 3, pos := "law.go:227", after := #[{ on := 15, ground := Go.Ground.guard }], guard := some (15, true) }) (v := ?_) rfl (by kernel_rfl) (by kernel_rfl) (by kernel_rfl) (by kernel_rfl) (fun _ _ _ h => h) (Or.inl ⟨by rfl, ?_⟩) trivial ?_
            rotate_left
            · intro w hSw
              clear hSw
              go_simp
              all_goals (with_reducible rfl)
            try simp only [Act.put, List.setIfInBounds_toArray, List.set_cons_zero, List.set_cons_succ]
            refine wpAnyT_take (i := 19) (oi := { dst := some 44, op := Go.Op.binOp Go.BinOp.add 3 (Go.Operand.tmp 43) (Go.Operand.const (Go.Value.int Go.IntKind.i64 2)) 3, type := 3, pos := "law.go:227", after := #[{ on := 18, ground := Go.Ground.data }, { on := 15, ground := Go.Ground.guard }], guard := some (15, true) }) (v := ?_) rfl (by kernel_rfl) (by kernel_rfl) (by kernel_rfl) (by kernel_rfl) (fun _ _ _ h => h) (Or.inl ⟨by rfl, ?_⟩) trivial ?_
            rotate_left
            · intro w hSw
              clear hSw
              go_simp
              all_goals (with_reducible rfl)
            try simp only [Act.put, List.setIfInBounds_toArray, List.set_cons_zero, List.set_cons_succ]
            refine wpAnyT_take (i := 20) (oi := { dst := some 45, op := Go.Op.binOp Go.BinOp.leq 3 (Go.Operand.tmp 44) (Go.Operand.const (Go.Value.int Go.IntKind.i64 400)) 3, type := 4, pos := "law.go:227", after := #[{ on := 19, ground := Go.Ground.data }, { on := 15, ground := Go.Ground.guard }], guard := some (15, true) }) (v := ?_) rfl (by kernel_rfl) (by kernel_rfl) (by kernel_rfl) (by kernel_rfl) (fun _ _ _ h => h) (Or.inl ⟨by rfl, ?_⟩) trivial ?_
            rotate_left
            · intro w hSw
              clear hSw
              go_simp
              all_goals (with_reducible rfl)
            try simp only [Act.put, List.setIfInBounds_toArray, List.set_cons_zero, List.set_cons_succ]
            refine wpAnyT_take (i := 21) (oi := { dst := some 46, op := Go.Op.binOp Go.BinOp.eql 4 (Go.Operand.tmp 42) (Go.Operand.tmp 45) 4, type := 4, pos := "law.go:227", after := #[{ on := 17, ground := Go.Ground.data }, { on := 20, ground := Go.Ground.data }, { on := 15, ground := Go.Ground.guard }], guard := some (15, true) }) (v := ?_) rfl (by kernel_rfl) (by kernel_rfl) (by kernel_rfl) (by kernel_rfl) (fun _ _ _ h => h) (Or.inl ⟨by rfl, ?_⟩) trivial ?_
            rotate_left
            · intro w hSw
              clear hSw
              go_simp
              all_goals (with_reducible rfl)
            try simp only [Act.put, List.setIfInBounds_toArray, List.set_cons_zero, List.set_cons_succ]
            refine wpAnyT_take (i := 22) (oi := { dst := some 47, op := Go.Op.pick (Go.Operand.tmp 40) (Go.Operand.tmp 46) (Go.Operand.const (Go.Value.bool false)), type := 4, pos := "law.go:227", after := #[{ on := 15, ground := Go.Ground.data }, { on := 21, ground := Go.Ground.data }], guard := none }) (v := ?_) rfl (by kernel_rfl) (by kernel_rfl) (by kernel_rfl) (by kernel_rfl) (fun _ _ _ h => h) (Or.inl ⟨by rfl, ?_⟩) trivial ?_
            rotate_left
            · intro w hSw
              clear hSw
              go_simp
              all_goals (with_reducible rfl)
            try simp only [Act.put, List.setIfInBounds_toArray, List.set_cons_zero, List.set_cons_succ]
            refine wpAnyT_take (i := 23) (oi := { dst := some 2, op := Go.Op.assign (Go.Operand.tmp 47), type := 4, pos := "law.go:227", after := #[{ on := 22, ground := Go.Ground.data }, { on := 15, ground := Go.Ground.chain }, { on := 0, ground := Go.Ground.phase }, { on := 1, ground := Go.Ground.phase }, { on := 2, ground := Go.Ground.phase }, { on := 3, ground := Go.Ground.phase }, { on := 4, ground := Go.Ground.phase }, { on := 5, ground := Go.Ground.phase }, { on := 6, ground := Go.Ground.phase }, { on := 7, ground := Go.Ground.phase }, { on := 8, ground := Go.Ground.phase }, { on := 9, ground := Go.Ground.phase }, { on := 10, ground := Go.Ground.phase }, { on := 11, ground := Go.Ground.phase }, { on := 12, ground := Go.Ground.phase }, { on := 13, ground := Go.Ground.phase }, { on := 14, ground := Go.Ground.phase }, { on := 15, ground := Go.Ground.phase }, { on := 16, ground := Go.Ground.phase }, { on := 17, ground := Go.Ground.phase }, { on := 18, ground := Go.Ground.phase }, { on := 19, ground := Go.Ground.phase }, { on := 20, ground := Go.Ground.phase }, { on := 21, ground := Go.Ground.phase }, { on := 22, ground := Go.Ground.phase }], guard := none }) (v := ?_) rfl (by kernel_rfl) (by kernel_rfl) (by kernel_rfl) (by kernel_rfl) (fun _ _ _ h => h) (Or.inl ⟨by rfl, ?_⟩) trivial ?_
            rotate_left
            · intro w hSw
              clear hSw
              go_simp
              all_goals (with_reducible rfl)
            try simp only [Act.put, List.setIfInBounds_toArray, List.set_cons_zero, List.set_cons_succ]
            refine wpAnyT_done (by kernel_rfl) ?_ _
            go_wp2_with fail
            go_ret
            exact ⟨rfl, Z2.out.dn⟩
        · refine step_makeMap (by rfl) 53 (by rfl) ?_
          have Z2 := Lib.hid (li_make A2.out)
          refine hK.out _ _ trivial (fun hHeld => ?_)
          clear hHeld hK K
          try simp only [Act.put, List.setIfInBounds_toArray, List.set_cons_zero, List.set_cons_succ]
          refine wpAnyT_three (i := 1) (j := 6) (l := 7) (oi := { dst := some 28, op := Go.Op.call { callee := Go.Callee.value (Go.Operand.func 39), args := #[Go.Operand.tmp 27], argTypes := #[48] }, type := 51, pos := "law.go:227", after := #[{ on := 0, ground := Go.Ground.data }], guard := none }) (oj := { dst := none, op := Go.Op.insert 53 (Go.Operand.tmp 32) (Go.Operand.const (Go.Value.bool true)) (Go.Operand.const (Go.Value.int Go.IntKind.i64 2)), type := 0, pos := "law.go:227", after := #[{ on := 5, ground := Go.Ground.data }], guard := none }) (ol := { dst := none, op := Go.Op.insert 53 (Go.Operand.tmp 32) (Go.Operand.const (Go.Value.bool false)) (Go.Operand.const (Go.Value.int Go.IntKind.i64 0)), type := 0, pos := "law.go:227", after := #[{ on := 5, ground := Go.Ground.data }], guard := none }) (by kernel_rfl) rfl rfl rfl (fun K hK => ?_) (fun K hK => ?_) (fun K hK => ?_)
          · go_simp
            go_at_call 39
            refine (LiAt.opens Z2.out hS').mono ?_
            rintro e w8 ⟨a8, c8, rfl, hA8⟩
            have Z2 := Lib.hid hA8
            clear hA8
            go_wp2_with fail
            refine hK.out _ _ trivial (fun hHeld => ?_)
            clear hHeld hK K
            try simp only [Act.put, List.setIfInBounds_toArray, List.set_cons_zero, List.set_cons_succ]
            refine wpAnyT_take (i := 2) (oi := { dst := some 29, op := Go.Op.call { callee := Go.Callee.builtin Go.Builtin.len, args := #[Go.Operand.tmp 28], argTypes := #[51] }, type := 3, pos := "law.go:227", after := #[{ on := 1, ground := Go.Ground.data }], guard := none }) (v := ?_) rfl (by kernel_rfl) (by kernel_rfl) (by kernel_rfl) (by kernel_rfl) (fun _ _ _ h => h) (Or.inl ⟨by rfl, ?_⟩) trivial ?_
            rotate_left
            · intro w hSw
              clear hSw
              go_simp
              all_goals (with_reducible rfl)
            try simp only [Act.put, List.setIfInBounds_toArray, List.set_cons_zero, List.set_cons_succ]
            refine wpAnyT_two (i := 6) (j := 7) (oi := { dst := none, op := Go.Op.insert 53 (Go.Operand.tmp 32) (Go.Operand.const (Go.Value.bool true)) (Go.Operand.const (Go.Value.int Go.IntKind.i64 2)), type := 0, pos := "law.go:227", after := #[{ on := 5, ground := Go.Ground.data }], guard := none }) (oj := { dst := none, op := Go.Op.insert 53 (Go.Operand.tmp 32) (Go.Operand.const (Go.Value.bool false)) (Go.Operand.const (Go.Value.int Go.IntKind.i64 0)), type := 0, pos := "law.go:227", after := #[{ on := 5, ground := Go.Ground.data }], guard := none }) (by kernel_rfl) rfl rfl (fun K hK => ?_) (fun K hK => ?_)
            · refine step_insert (H := Unit) (by rfl) _ _ _ 53 (by rfl) 4 3 (bool_keyed Tryd.underlying4) Tryd.underlying53 (plainElem Tryd.prog 3) _ _ _ (by rfl) Z2.out.map (by unfold maxLen; decide) _ _ (.bool true) (by rfl) (by rfl) (keyOf_bool_mk Tryd.underlying4 true) (.lit (.int .i64 2)) [] (plainElem_int Tryd.underlying3 (by decide)) ?_
              intro w9 hm9 hg9
              have Z2 := Lib.hid (Z2.out.ins hm9 hg9)
              clear hm9 hg9
              refine hK.out _ _ trivial (fun hHeld => ?_)
              clear hHeld hK K
              try simp only [Act.put]
              refine wpAnyT_one (i := 7) (o := { dst := none, op := Go.Op.insert 53 (Go.Operand.tmp 32) (Go.Operand.const (Go.Value.bool false)) (Go.Operand.const (Go.Value.int Go.IntKind.i64 0)), type := 0, pos := "law.go:227", after := #[{ on := 5, ground := Go.Ground.data }], guard := none }) (by kernel_rfl) rfl (fun K hK => ?_)
              refine step_insert (H := Unit) (by rfl) _ _ _ 53 (by rfl) 4 3 (bool_keyed Tryd.underlying4) Tryd.underlying53 (plainElem Tryd.prog 3) _ _ _ (by rfl) Z2.out.map (by unfold maxLen; decide) _ _ (.bool false) (by rfl) (by rfl) (keyOf_bool_mk Tryd.underlying4 false) (.lit (.int .i64 0)) [] (plainElem_int Tryd.underlying3 (by decide)) ?_
              intro w9 hm9 hg9
              have Z2 := Lib.hid (Z2.out.ins hm9 hg9)
              clear hm9 hg9
              refine hK.out _ _ trivial (fun hHeld => ?_)
              clear hHeld hK K
              try simp only [Act.put]
              refine wpAnyT_take (i := 8) (oi := { dst := some 33, op := Go.Op.move (Go.Operand.tmp 32), type := 53, pos := "law.go:227", after := #[{ on := 5, ground := Go.Ground.data }, { on := 6, ground := Go.Ground.data }, { on := 7, ground := Go.Ground.data }], guard := none }) (v := ?_) rfl (by kernel_rfl) (by kernel_rfl) (by kernel_rfl) (by kernel_rfl) (fun _ _ _ h => h) (Or.inl ⟨by rfl, ?_⟩) trivial ?_
              rotate_left
              · intro w hSw
                clear hSw
                go_simp
                all_goals (with_reducible rfl)
              try simp only [Act.put, List.setIfInBounds_toArray, List.set_cons_zero, List.set_cons_succ]
              refine wpAnyT_one (i := 12) (o := { dst := some 37, op := Go.Op.lookup 53 (Go.Operand.tmp 33) (Go.Operand.tmp 36) false, type := 3, pos := "law.go:227", after := #[{ on := 8, ground := Go.Ground.data }, { on := 11, ground := Go.Ground.data }], guard := none }) (by kernel_rfl) rfl (fun K hK => ?_)
              refine step_lookup (H := Unit) (by rfl) _ _ 53 (by rfl) 4 3 .i64 (bool_keyed Tryd.underlying4) Tryd.underlying53 Tryd.underlying3 (Tryd.zeroValue3 _) _ _ _ (by rfl) Z2.out.map _ (.bool true) (by rfl) (keyOf_bool_mk Tryd.underlying4 true) 2 (by rfl) ?_
              refine hK.out _ _ trivial (fun hHeld => ?_)
              clear hHeld hK K
              try simp only [Act.put, List.setIfInBounds_toArray, List.set_cons_zero, List.set_cons_succ]
              refine wpAnyT_take (i := 13) (oi := { dst := some 38, op := Go.Op.binOp Go.BinOp.add 3 (Go.Operand.tmp 31) (Go.Operand.tmp 37) 3, type := 3, pos := "law.go:227", after := #[{ on := 4, ground := Go.Ground.data }, { on := 12, ground := Go.Ground.data }], guard := none }) (v := ?_) rfl (by kernel_rfl) (by kernel_rfl) (by kernel_rfl) (by kernel_rfl) (fun _ _ _ h => h) (Or.inl ⟨by rfl, ?_⟩) trivial ?_
              rotate_left
              · intro w hSw
                clear hSw
                go_simp
                all_goals (with_reducible rfl)
              try simp only [Act.put, List.setIfInBounds_toArray, List.set_cons_zero, List.set_cons_succ]
              try simp only [hw]
              try simp only [hw3]
              try simp only [hw2]
              refine wpAnyT_take (i := 14) (oi := { dst := some 39, op := Go.Op.binOp Go.BinOp.eql 3 (Go.Operand.tmp 29) (Go.Operand.tmp 38) 3, type := 4, pos := "law.go:227", after := #[{ on := 2, ground := Go.Ground.data }, { on := 13, ground := Go.Ground.data }], guard := none }) (v := ?_) rfl (by kernel_rfl) (by kernel_rfl) (by kernel_rfl) (by kernel_rfl) (fun _ _ _ h => h) (Or.inl ⟨by rfl, ?_⟩) trivial ?_
              rotate_left
              · intro w hSw
                clear hSw
                go_simp
                all_goals (with_reducible rfl)
              try simp only [Act.put, List.setIfInBounds_toArray, List.set_cons_zero, List.set_cons_succ]
              try simp only [he]
              refine wpAnyT_take (i := 15) (oi := { dst := some 40, op := Go.Op.move (Go.Operand.tmp 39), type := 4, pos := "law.go:227", after := #[{ on := 14, ground := Go.Ground.data }, { on := 1, ground := Go.Ground.chain }], guard := none }) (v := ?_) rfl (by kernel_rfl) (by kernel_rfl) (by kernel_rfl) (by kernel_rfl) (fun _ _ _ h => h) (Or.inl ⟨by rfl, ?_⟩) trivial ?_
              rotate_left
              · intro w hSw
                clear hSw
                go_simp
                all_goals (with_reducible rfl)
              try simp only [Act.put, List.setIfInBounds_toArray, List.set_cons_zero, List.set_cons_succ]
              refine wpAnyT_take (i := 16) (oi := { dst := some 41, op := Go.Op.move (Go.Operand.tmp 6), type := 25, pos := "law.go:227", after := #[{ on := 15, ground := Go.Ground.guard }], guard := some (15, true) }) (v := ?_) rfl (by kernel_rfl) (by kernel_rfl) (by kernel_rfl) (by kernel_rfl) (fun _ _ _ h => h) (Or.inl ⟨by rfl, ?_⟩) trivial ?_
              rotate_left
              · intro w hSw
                clear hSw
                go_simp
                all_goals (with_reducible rfl)
              try simp only [Act.put, List.setIfInBounds_toArray, List.set_cons_zero, List.set_cons_succ]
              refine wpAnyT_take (i := 17) (oi := { dst := some 42, op := Go.Op.binOp Go.BinOp.eql 25 (Go.Operand.tmp 41) (Go.Operand.const (Go.Value.int Go.IntKind.i64 0)) 25, type := 4, pos := "law.go:227", after := #[{ on := 16, ground := Go.Ground.data }, { on := 15, ground := Go.Ground.guard }], guard := some (15, true) }) (v := ?_) rfl (by kernel_rfl) (by kernel_rfl) (by kernel_rfl) (by kernel_rfl) (fun _ _ _ h => h) (Or.inl ⟨by rfl, ?_⟩) trivial ?_
              rotate_left
              · intro w hSw
                clear hSw
                go_simp
                all_goals (with_reducible rfl)
              try simp only [Act.put, List.setIfInBounds_toArray, List.set_cons_zero, List.set_cons_succ]
              refine wpAnyT_take (i := 18) (oi := { dst := some 43, op := Go.Op.move (Go.Operand.tmp 5), type := 3, pos := "law.go:227", after := #[{ on := 15, ground := Go.Ground.guard }], guard := some (15, true) }) (v := ?_) rfl (by kernel_rfl) (by kernel_rfl) (by kernel_rfl) (by kernel_rfl) (fun _ _ _ h => h) (Or.inl ⟨by rfl, ?_⟩) trivial ?_
              rotate_left
              · intro w hSw
                clear hSw
                go_simp
                all_goals (with_reducible rfl)
              try simp only [Act.put, List.setIfInBounds_toArray, List.set_cons_zero, List.set_cons_succ]
              refine wpAnyT_take (i := 19) (oi := { dst := some 44, op := Go.Op.binOp Go.BinOp.add 3 (Go.Operand.tmp 43) (Go.Operand.const (Go.Value.int Go.IntKind.i64 2)) 3, type := 3, pos := "law.go:227", after := #[{ on := 18, ground := Go.Ground.data }, { on := 15, ground := Go.Ground.guard }], guard := some (15, true) }) (v := ?_) rfl (by kernel_rfl) (by kernel_rfl) (by kernel_rfl) (by kernel_rfl) (fun _ _ _ h => h) (Or.inl ⟨by rfl, ?_⟩) trivial ?_
              rotate_left
              · intro w hSw
                clear hSw
                go_simp
                all_goals (with_reducible rfl)
              try simp only [Act.put, List.setIfInBounds_toArray, List.set_cons_zero, List.set_cons_succ]
              refine wpAnyT_take (i := 20) (oi := { dst := some 45, op := Go.Op.binOp Go.BinOp.leq 3 (Go.Operand.tmp 44) (Go.Operand.const (Go.Value.int Go.IntKind.i64 400)) 3, type := 4, pos := "law.go:227", after := #[{ on := 19, ground := Go.Ground.data }, { on := 15, ground := Go.Ground.guard }], guard := some (15, true) }) (v := ?_) rfl (by kernel_rfl) (by kernel_rfl) (by kernel_rfl) (by kernel_rfl) (fun _ _ _ h => h) (Or.inl ⟨by rfl, ?_⟩) trivial ?_
              rotate_left
              · intro w hSw
                clear hSw
                go_simp
                all_goals (with_reducible rfl)
              try simp only [Act.put, List.setIfInBounds_toArray, List.set_cons_zero, List.set_cons_succ]
              refine wpAnyT_take (i := 21) (oi := { dst := some 46, op := Go.Op.binOp Go.BinOp.eql 4 (Go.Operand.tmp 42) (Go.Operand.tmp 45) 4, type := 4, pos := "law.go:227", after := #[{ on := 17, ground := Go.Ground.data }, { on := 20, ground := Go.Ground.data }, { on := 15, ground := Go.Ground.guard }], guard := some (15, true) }) (v := ?_) rfl (by kernel_rfl) (by kernel_rfl) (by kernel_rfl) (by kernel_rfl) (fun _ _ _ h => h) (Or.inl ⟨by rfl, ?_⟩) trivial ?_
              rotate_left
              · intro w hSw
                clear hSw
                go_simp
                all_goals (with_reducible rfl)
              try simp only [Act.put, List.setIfInBounds_toArray, List.set_cons_zero, List.set_cons_succ]
              refine wpAnyT_take (i := 22) (oi := { dst := some 47, op := Go.Op.pick (Go.Operand.tmp 40) (Go.Operand.tmp 46) (Go.Operand.const (Go.Value.bool false)), type := 4, pos := "law.go:227", after := #[{ on := 15, ground := Go.Ground.data }, { on := 21, ground := Go.Ground.data }], guard := none }) (v := ?_) rfl (by kernel_rfl) (by kernel_rfl) (by kernel_rfl) (by kernel_rfl) (fun _ _ _ h => h) (Or.inl ⟨by rfl, ?_⟩) trivial ?_
              rotate_left
              · intro w hSw
                clear hSw
                go_simp
                all_goals (with_reducible rfl)
              try simp only [Act.put, List.setIfInBounds_toArray, List.set_cons_zero, List.set_cons_succ]
              refine wpAnyT_take (i := 23) (oi := { dst := some 2, op := Go.Op.assign (Go.Operand.tmp 47), type := 4, pos := "law.go:227", after := #[{ on := 22, ground := Go.Ground.data }, { on := 15, ground := Go.Ground.chain }, { on := 0, ground := Go.Ground.phase }, { on := 1, ground := Go.Ground.phase }, { on := 2, ground := Go.Ground.phase }, { on := 3, ground := Go.Ground.phase }, { on := 4, ground := Go.Ground.phase }, { on := 5, ground := Go.Ground.phase }, { on := 6, ground := Go.Ground.phase }, { on := 7, ground := Go.Ground.phase }, { on := 8, ground := Go.Ground.phase }, { on := 9, ground := Go.Ground.phase }, { on := 10, ground := Go.Ground.phase }, { on := 11, ground := Go.Ground.phase }, { on := 12, ground := Go.Ground.phase }, { on := 13, ground := Go.Ground.phase }, { on := 14, ground := Go.Ground.phase }, { on := 15, ground := Go.Ground.phase }, { on := 16, ground := Go.Ground.phase }, { on := 17, ground := Go.Ground.phase }, { on := 18, ground := Go.Ground.phase }, { on := 19, ground := Go.Ground.phase }, { on := 20, ground := Go.Ground.phase }, { on := 21, ground := Go.Ground.phase }, { on := 22, ground := Go.Ground.phase }], guard := none }) (v := ?_) rfl (by kernel_rfl) (by kernel_rfl) (by kernel_rfl) (by kernel_rfl) (fun _ _ _ h => h) (Or.inl ⟨by rfl, ?_⟩) trivial ?_
              rotate_left
              · intro w hSw
                clear hSw
                go_simp
                all_goals (with_reducible rfl)
              try simp only [Act.put, List.setIfInBounds_toArray, List.set_cons_zero, List.set_cons_succ]
              refine wpAnyT_done (by kernel_rfl) ?_ _
              go_wp2_with fail
              go_ret
              exact ⟨rfl, Z2.out.dn⟩
            · refine step_insert (H := Unit) (by rfl) _ _ _ 53 (by rfl) 4 3 (bool_keyed Tryd.underlying4) Tryd.underlying53 (plainElem Tryd.prog 3) _ _ _ (by rfl) Z2.out.map (by unfold maxLen; decide) _ _ (.bool false) (by rfl) (by rfl) (keyOf_bool_mk Tryd.underlying4 false) (.lit (.int .i64 0)) [] (plainElem_int Tryd.underlying3 (by decide)) ?_
              intro w9 hm9 hg9
              have Z2 := Lib.hid (Z2.out.ins hm9 hg9)
              clear hm9 hg9
              refine hK.out _ _ trivial (fun hHeld => ?_)
              clear hHeld hK K
              try simp only [Act.put]
              refine wpAnyT_one (i := 6) (o := { dst := none, op := Go.Op.insert 53 (Go.Operand.tmp 32) (Go.Operand.const (Go.Value.bool true)) (Go.Operand.const (Go.Value.int Go.IntKind.i64 2)), type := 0, pos := "law.go:227", after := #[{ on := 5, ground := Go.Ground.data }], guard := none }) (by kernel_rfl) rfl (fun K hK => ?_)
              refine step_insert (H := Unit) (by rfl) _ _ _ 53 (by rfl) 4 3 (bool_keyed Tryd.underlying4) Tryd.underlying53 (plainElem Tryd.prog 3) _ _ _ (by rfl) Z2.out.map (by unfold maxLen; decide) _ _ (.bool true) (by rfl) (by rfl) (keyOf_bool_mk Tryd.underlying4 true) (.lit (.int .i64 2)) [] (plainElem_int Tryd.underlying3 (by decide)) ?_
              intro w9 hm9 hg9
              have Z2 := Lib.hid (Z2.out.ins hm9 hg9)
              clear hm9 hg9
              refine hK.out _ _ trivial (fun hHeld => ?_)
              clear hHeld hK K
              try simp only [Act.put]
              refine wpAnyT_take (i := 8) (oi := { dst := some 33, op := Go.Op.move (Go.Operand.tmp 32), type := 53, pos := "law.go:227", after := #[{ on := 5, ground := Go.Ground.data }, { on := 6, ground := Go.Ground.data }, { on := 7, ground := Go.Ground.data }], guard := none }) (v := ?_) rfl (by kernel_rfl) (by kernel_rfl) (by kernel_rfl) (by kernel_rfl) (fun _ _ _ h => h) (Or.inl ⟨by rfl, ?_⟩) trivial ?_
              rotate_left
              · intro w hSw
                clear hSw
                go_simp
                all_goals (with_reducible rfl)
              try simp only [Act.put, List.setIfInBounds_toArray, List.set_cons_zero, List.set_cons_succ]
              refine wpAnyT_one (i := 12) (o := { dst := some 37, op := Go.Op.lookup 53 (Go.Operand.tmp 33) (Go.Operand.tmp 36) false, type := 3, pos := "law.go:227", after := #[{ on := 8, ground := Go.Ground.data }, { on := 11, ground := Go.Ground.data }], guard := none }) (by kernel_rfl) rfl (fun K hK => ?_)
              refine step_lookup (H := Unit) (by rfl) _ _ 53 (by rfl) 4 3 .i64 (bool_keyed Tryd.underlying4) Tryd.underlying53 Tryd.underlying3 (Tryd.zeroValue3 _) _ _ _ (by rfl) Z2.out.map _ (.bool true) (by rfl) (keyOf_bool_mk Tryd.underlying4 true) 2 (by rfl) ?_
              refine hK.out _ _ trivial (fun hHeld => ?_)
              clear hHeld hK K
              try simp only [Act.put, List.setIfInBounds_toArray, List.set_cons_zero, List.set_cons_succ]
              refine wpAnyT_take (i := 13) (oi := { dst := some 38, op := Go.Op.binOp Go.BinOp.add 3 (Go.Operand.tmp 31) (Go.Operand.tmp 37) 3, type := 3, pos := "law.go:227", after := #[{ on := 4, ground := Go.Ground.data }, { on := 12, ground := Go.Ground.data }], guard := none }) (v := ?_) rfl (by kernel_rfl) (by kernel_rfl) (by kernel_rfl) (by kernel_rfl) (fun _ _ _ h => h) (Or.inl ⟨by rfl, ?_⟩) trivial ?_
              rotate_left
              · intro w hSw
                clear hSw
                go_simp
                all_goals (with_reducible rfl)
              try simp only [Act.put, List.setIfInBounds_toArray, List.set_cons_zero, List.set_cons_succ]
              try simp only [hw]
              try simp only [hw3]
              try simp only [hw2]
              refine wpAnyT_take (i := 14) (oi := { dst := some 39, op := Go.Op.binOp Go.BinOp.eql 3 (Go.Operand.tmp 29) (Go.Operand.tmp 38) 3, type := 4, pos := "law.go:227", after := #[{ on := 2, ground := Go.Ground.data }, { on := 13, ground := Go.Ground.data }], guard := none }) (v := ?_) rfl (by kernel_rfl) (by kernel_rfl) (by kernel_rfl) (by kernel_rfl) (fun _ _ _ h => h) (Or.inl ⟨by rfl, ?_⟩) trivial ?_
              rotate_left
              · intro w hSw
                clear hSw
                go_simp
                all_goals (with_reducible rfl)
              try simp only [Act.put, List.setIfInBounds_toArray, List.set_cons_zero, List.set_cons_succ]
              try simp only [he]
              refine wpAnyT_take (i := 15) (oi := { dst := some 40, op := Go.Op.move (Go.Operand.tmp 39), type := 4, pos := "law.go:227", after := #[{ on := 14, ground := Go.Ground.data }, { on := 1, ground := Go.Ground.chain }], guard := none }) (v := ?_) rfl (by kernel_rfl) (by kernel_rfl) (by kernel_rfl) (by kernel_rfl) (fun _ _ _ h => h) (Or.inl ⟨by rfl, ?_⟩) trivial ?_
              rotate_left
              · intro w hSw
                clear hSw
                go_simp
                all_goals (with_reducible rfl)
              try simp only [Act.put, List.setIfInBounds_toArray, List.set_cons_zero, List.set_cons_succ]
              refine wpAnyT_take (i := 16) (oi := { dst := some 41, op := Go.Op.move (Go.Operand.tmp 6), type := 25, pos := "law.go:227", after := #[{ on := 15, ground := Go.Ground.guard }], guard := some (15, true) }) (v := ?_) rfl (by kernel_rfl) (by kernel_rfl) (by kernel_rfl) (by kernel_rfl) (fun _ _ _ h => h) (Or.inl ⟨by rfl, ?_⟩) trivial ?_
              rotate_left
              · intro w hSw
                clear hSw
                go_simp
                all_goals (with_reducible rfl)
              try simp only [Act.put, List.setIfInBounds_toArray, List.set_cons_zero, List.set_cons_succ]
              refine wpAnyT_take (i := 17) (oi := { dst := some 42, op := Go.Op.binOp Go.BinOp.eql 25 (Go.Operand.tmp 41) (Go.Operand.const (Go.Value.int Go.IntKind.i64 0)) 25, type := 4, pos := "law.go:227", after := #[{ on := 16, ground := Go.Ground.data }, { on := 15, ground := Go.Ground.guard }], guard := some (15, true) }) (v := ?_) rfl (by kernel_rfl) (by kernel_rfl) (by kernel_rfl) (by kernel_rfl) (fun _ _ _ h => h) (Or.inl ⟨by rfl, ?_⟩) trivial ?_
              rotate_left
              · intro w hSw
                clear hSw
                go_simp
                all_goals (with_reducible rfl)
              try simp only [Act.put, List.setIfInBounds_toArray, List.set_cons_zero, List.set_cons_succ]
              refine wpAnyT_take (i := 18) (oi := { dst := some 43, op := Go.Op.move (Go.Operand.tmp 5), type := 3, pos := "law.go:227", after := #[{ on := 15, ground := Go.Ground.guard }], guard := some (15, true) }) (v := ?_) rfl (by kernel_rfl) (by kernel_rfl) (by kernel_rfl) (by kernel_rfl) (fun _ _ _ h => h) (Or.inl ⟨by rfl, ?_⟩) trivial ?_
              rotate_left
              · intro w hSw
                clear hSw
                go_simp
                all_goals (with_reducible rfl)
              try simp only [Act.put, List.setIfInBounds_toArray, List.set_cons_zero, List.set_cons_succ]
              refine wpAnyT_take (i := 19) (oi := { dst := some 44, op := Go.Op.binOp Go.BinOp.add 3 (Go.Operand.tmp 43) (Go.Operand.const (Go.Value.int Go.IntKind.i64 2)) 3, type := 3, pos := "law.go:227", after := #[{ on := 18, ground := Go.Ground.data }, { on := 15, ground := Go.Ground.guard }], guard := some (15, true) }) (v := ?_) rfl (by kernel_rfl) (by kernel_rfl) (by kernel_rfl) (by kernel_rfl) (fun _ _ _ h => h) (Or.inl ⟨by rfl, ?_⟩) trivial ?_
              rotate_left
              · intro w hSw
                clear hSw
                go_simp
                all_goals (with_reducible rfl)
              try simp only [Act.put, List.setIfInBounds_toArray, List.set_cons_zero, List.set_cons_succ]
              refine wpAnyT_take (i := 20) (oi := { dst := some 45, op := Go.Op.binOp Go.BinOp.leq 3 (Go.Operand.tmp 44) (Go.Operand.const (Go.Value.int Go.IntKind.i64 400)) 3, type := 4, pos := "law.go:227", after := #[{ on := 19, ground := Go.Ground.data }, { on := 15, ground := Go.Ground.guard }], guard := some (15, true) }) (v := ?_) rfl (by kernel_rfl) (by kernel_rfl) (by kernel_rfl) (by kernel_rfl) (fun _ _ _ h => h) (Or.inl ⟨by rfl, ?_⟩) trivial ?_
              rotate_left
              · intro w hSw
                clear hSw
                go_simp
                all_goals (with_reducible rfl)
              try simp only [Act.put, List.setIfInBounds_toArray, List.set_cons_zero, List.set_cons_succ]
              refine wpAnyT_take (i := 21) (oi := { dst := some 46, op := Go.Op.binOp Go.BinOp.eql 4 (Go.Operand.tmp 42) (Go.Operand.tmp 45) 4, type := 4, pos := "law.go:227", after := #[{ on := 17, ground := Go.Ground.data }, { on := 20, ground := Go.Ground.data }, { on := 15, ground := Go.Ground.guard }], guard := some (15, true) }) (v := ?_) rfl (by kernel_rfl) (by kernel_rfl) (by kernel_rfl) (by kernel_rfl) (fun _ _ _ h => h) (Or.inl ⟨by rfl, ?_⟩) trivial ?_
              rotate_left
              · intro w hSw
                clear hSw
                go_simp
                all_goals (with_reducible rfl)
              try simp only [Act.put, List.setIfInBounds_toArray, List.set_cons_zero, List.set_cons_succ]
              refine wpAnyT_take (i := 22) (oi := { dst := some 47, op := Go.Op.pick (Go.Operand.tmp 40) (Go.Operand.tmp 46) (Go.Operand.const (Go.Value.bool false)), type := 4, pos := "law.go:227", after := #[{ on := 15, ground := Go.Ground.data }, { on := 21, ground := Go.Ground.data }], guard := none }) (v := ?_) rfl (by kernel_rfl) (by kernel_rfl) (by kernel_rfl) (by kernel_rfl) (fun _ _ _ h => h) (Or.inl ⟨by rfl, ?_⟩) trivial ?_
              rotate_left
              · intro w hSw
                clear hSw
                go_simp
                all_goals (with_reducible rfl)
              try simp only [Act.put, List.setIfInBounds_toArray, List.set_cons_zero, List.set_cons_succ]
              refine wpAnyT_take (i := 23) (oi := { dst := some 2, op := Go.Op.assign (Go.Operand.tmp 47), type := 4, pos := "law.go:227", after := #[{ on := 22, ground := Go.Ground.data }, { on := 15, ground := Go.Ground.chain }, { on := 0, ground := Go.Ground.phase }, { on := 1, ground := Go.Ground.phase }, { on := 2, ground := Go.Ground.phase }, { on := 3, ground := Go.Ground.phase }, { on := 4, ground := Go.Ground.phase }, { on := 5, ground := Go.Ground.phase }, { on := 6, ground := Go.Ground.phase }, { on := 7, ground := Go.Ground.phase }, { on := 8, ground := Go.Ground.phase }, { on := 9, ground := Go.Ground.phase }, { on := 10, ground := Go.Ground.phase }, { on := 11, ground := Go.Ground.phase }, { on := 12, ground := Go.Ground.phase }, { on := 13, ground := Go.Ground.phase }, { on := 14, ground := Go.Ground.phase }, { on := 15, ground := Go.Ground.phase }, { on := 16, ground := Go.Ground.phase }, { on := 17, ground := Go.Ground.phase }, { on := 18, ground := Go.Ground.phase }, { on := 19, ground := Go.Ground.phase }, { on := 20, ground := Go.Ground.phase }, { on := 21, ground := Go.Ground.phase }, { on := 22, ground := Go.Ground.phase }], guard := none }) (v := ?_) rfl (by kernel_rfl) (by kernel_rfl) (by kernel_rfl) (by kernel_rfl) (fun _ _ _ h => h) (Or.inl ⟨by rfl, ?_⟩) trivial ?_
              rotate_left
              · intro w hSw
                clear hSw
                go_simp
                all_goals (with_reducible rfl)
              try simp only [Act.put, List.setIfInBounds_toArray, List.set_cons_zero, List.set_cons_succ]
              refine wpAnyT_done (by kernel_rfl) ?_ _
              go_wp2_with fail
              go_ret
              exact ⟨rfl, Z2.out.dn⟩
          · refine step_insert (H := Unit) (by rfl) _ _ _ 53 (by rfl) 4 3 (bool_keyed Tryd.underlying4) Tryd.underlying53 (plainElem Tryd.prog 3) _ _ _ (by rfl) Z2.out.map (by unfold maxLen; decide) _ _ (.bool true) (by rfl) (by rfl) (keyOf_bool_mk Tryd.underlying4 true) (.lit (.int .i64 2)) [] (plainElem_int Tryd.underlying3 (by decide)) ?_
            intro w9 hm9 hg9
            have Z2 := Lib.hid (Z2.out.ins hm9 hg9)
            clear hm9 hg9
            refine hK.out _ _ trivial (fun hHeld => ?_)
            clear hHeld hK K
            try simp only [Act.put]
            refine wpAnyT_two (i := 1) (j := 7) (oi := { dst := some 28, op := Go.Op.call { callee := Go.Callee.value (Go.Operand.func 39), args := #[Go.Operand.tmp 27], argTypes := #[48] }, type := 51, pos := "law.go:227", after := #[{ on := 0, ground := Go.Ground.data }], guard := none }) (oj := { dst := none, op := Go.Op.insert 53 (Go.Operand.tmp 32) (Go.Operand.const (Go.Value.bool false)) (Go.Operand.const (Go.Value.int Go.IntKind.i64 0)), type := 0, pos := "law.go:227", after := #[{ on := 5, ground := Go.Ground.data }], guard := none }) (by kernel_rfl) rfl rfl (fun K hK => ?_) (fun K hK => ?_)
            · go_simp
              go_at_call 39
              refine (LiAt.opens Z2.out hS').mono ?_
              rintro e w8 ⟨a8, c8, rfl, hA8⟩
              have Z2 := Lib.hid hA8
              clear hA8
              go_wp2_with fail
              refine hK.out _ _ trivial (fun hHeld => ?_)
              clear hHeld hK K
              try simp only [Act.put, List.setIfInBounds_toArray, List.set_cons_zero, List.set_cons_succ]
              refine wpAnyT_take (i := 2) (oi := { dst := some 29, op := Go.Op.call { callee := Go.Callee.builtin Go.Builtin.len, args := #[Go.Operand.tmp 28], argTypes := #[51] }, type := 3, pos := "law.go:227", after := #[{ on := 1, ground := Go.Ground.data }], guard := none }) (v := ?_) rfl (by kernel_rfl) (by kernel_rfl) (by kernel_rfl) (by kernel_rfl) (fun _ _ _ h => h) (Or.inl ⟨by rfl, ?_⟩) trivial ?_
              rotate_left
              · intro w hSw
                clear hSw
                go_simp
                all_goals (with_reducible rfl)
              try simp only [Act.put, List.setIfInBounds_toArray, List.set_cons_zero, List.set_cons_succ]
              refine wpAnyT_one (i := 7) (o := { dst := none, op := Go.Op.insert 53 (Go.Operand.tmp 32) (Go.Operand.const (Go.Value.bool false)) (Go.Operand.const (Go.Value.int Go.IntKind.i64 0)), type := 0, pos := "law.go:227", after := #[{ on := 5, ground := Go.Ground.data }], guard := none }) (by kernel_rfl) rfl (fun K hK => ?_)
              refine step_insert (H := Unit) (by rfl) _ _ _ 53 (by rfl) 4 3 (bool_keyed Tryd.underlying4) Tryd.underlying53 (plainElem Tryd.prog 3) _ _ _ (by rfl) Z2.out.map (by unfold maxLen; decide) _ _ (.bool false) (by rfl) (by rfl) (keyOf_bool_mk Tryd.underlying4 false) (.lit (.int .i64 0)) [] (plainElem_int Tryd.underlying3 (by decide)) ?_
              intro w9 hm9 hg9
              have Z2 := Lib.hid (Z2.out.ins hm9 hg9)
              clear hm9 hg9
              refine hK.out _ _ trivial (fun hHeld => ?_)
              clear hHeld hK K
              try simp only [Act.put]
              refine wpAnyT_take (i := 8) (oi := { dst := some 33, op := Go.Op.move (Go.Operand.tmp 32), type := 53, pos := "law.go:227", after := #[{ on := 5, ground := Go.Ground.data }, { on := 6, ground := Go.Ground.data }, { on := 7, ground := Go.Ground.data }], guard := none }) (v := ?_) rfl (by kernel_rfl) (by kernel_rfl) (by kernel_rfl) (by kernel_rfl) (fun _ _ _ h => h) (Or.inl ⟨by rfl, ?_⟩) trivial ?_
              rotate_left
              · intro w hSw
                clear hSw
                go_simp
                all_goals (with_reducible rfl)
              try simp only [Act.put, List.setIfInBounds_toArray, List.set_cons_zero, List.set_cons_succ]
              refine wpAnyT_one (i := 12) (o := { dst := some 37, op := Go.Op.lookup 53 (Go.Operand.tmp 33) (Go.Operand.tmp 36) false, type := 3, pos := "law.go:227", after := #[{ on := 8, ground := Go.Ground.data }, { on := 11, ground := Go.Ground.data }], guard := none }) (by kernel_rfl) rfl (fun K hK => ?_)
              refine step_lookup (H := Unit) (by rfl) _ _ 53 (by rfl) 4 3 .i64 (bool_keyed Tryd.underlying4) Tryd.underlying53 Tryd.underlying3 (Tryd.zeroValue3 _) _ _ _ (by rfl) Z2.out.map _ (.bool true) (by rfl) (keyOf_bool_mk Tryd.underlying4 true) 2 (by rfl) ?_
              refine hK.out _ _ trivial (fun hHeld => ?_)
              clear hHeld hK K
              try simp only [Act.put, List.setIfInBounds_toArray, List.set_cons_zero, List.set_cons_succ]
              refine wpAnyT_take (i := 13) (oi := { dst := some 38, op := Go.Op.binOp Go.BinOp.add 3 (Go.Operand.tmp 31) (Go.Operand.tmp 37) 3, type := 3, pos := "law.go:227", after := #[{ on := 4, ground := Go.Ground.data }, { on := 12, ground := Go.Ground.data }], guard := none }) (v := ?_) rfl (by kernel_rfl) (by kernel_rfl) (by kernel_rfl) (by kernel_rfl) (fun _ _ _ h => h) (Or.inl ⟨by rfl, ?_⟩) trivial ?_
              rotate_left
              · intro w hSw
                clear hSw
                go_simp
                all_goals (with_reducible rfl)
              try simp only [Act.put, List.setIfInBounds_toArray, List.set_cons_zero, List.set_cons_succ]
              try simp only [hw]
              try simp only [hw3]
              try simp only [hw2]
              refine wpAnyT_take (i := 14) (oi := { dst := some 39, op := Go.Op.binOp Go.BinOp.eql 3 (Go.Operand.tmp 29) (Go.Operand.tmp 38) 3, type := 4, pos := "law.go:227", after := #[{ on := 2, ground := Go.Ground.data }, { on := 13, ground := Go.Ground.data }], guard := none }) (v := ?_) rfl (by kernel_rfl) (by kernel_rfl) (by kernel_rfl) (by kernel_rfl) (fun _ _ _ h => h) (Or.inl ⟨by rfl, ?_⟩) trivial ?_
              rotate_left
              · intro w hSw
                clear hSw
                go_simp
                all_goals (with_reducible rfl)
              try simp only [Act.put, List.setIfInBounds_toArray, List.set_cons_zero, List.set_cons_succ]
              try simp only [he]
              refine wpAnyT_take (i := 15) (oi := { dst := some 40, op := Go.Op.move (Go.Operand.tmp 39), type := 4, pos := "law.go:227", after := #[{ on := 14, ground := Go.Ground.data }, { on := 1, ground := Go.Ground.chain }], guard := none }) (v := ?_) rfl (by kernel_rfl) (by kernel_rfl) (by kernel_rfl) (by kernel_rfl) (fun _ _ _ h => h) (Or.inl ⟨by rfl, ?_⟩) trivial ?_
              rotate_left
              · intro w hSw
                clear hSw
                go_simp
                all_goals (with_reducible rfl)
              try simp only [Act.put, List.setIfInBounds_toArray, List.set_cons_zero, List.set_cons_succ]
              refine wpAnyT_take (i := 16) (oi := { dst := some 41, op := Go.Op.move (Go.Operand.tmp 6), type := 25, pos := "law.go:227", after := #[{ on := 15, ground := Go.Ground.guard }], guard := some (15, true) }) (v := ?_) rfl (by kernel_rfl) (by kernel_rfl) (by kernel_rfl) (by kernel_rfl) (fun _ _ _ h => h) (Or.inl ⟨by rfl, ?_⟩) trivial ?_
              rotate_left
              · intro w hSw
                clear hSw
                go_simp
                all_goals (with_reducible rfl)
              try simp only [Act.put, List.setIfInBounds_toArray, List.set_cons_zero, List.set_cons_succ]
              refine wpAnyT_take (i := 17) (oi := { dst := some 42, op := Go.Op.binOp Go.BinOp.eql 25 (Go.Operand.tmp 41) (Go.Operand.const (Go.Value.int Go.IntKind.i64 0)) 25, type := 4, pos := "law.go:227", after := #[{ on := 16, ground := Go.Ground.data }, { on := 15, ground := Go.Ground.guard }], guard := some (15, true) }) (v := ?_) rfl (by kernel_rfl) (by kernel_rfl) (by kernel_rfl) (by kernel_rfl) (fun _ _ _ h => h) (Or.inl ⟨by rfl, ?_⟩) trivial ?_
              rotate_left
              · intro w hSw
                clear hSw
                go_simp
                all_goals (with_reducible rfl)
              try simp only [Act.put, List.setIfInBounds_toArray, List.set_cons_zero, List.set_cons_succ]
              refine wpAnyT_take (i := 18) (oi := { dst := some 43, op := Go.Op.move (Go.Operand.tmp 5), type := 3, pos := "law.go:227", after := #[{ on := 15, ground := Go.Ground.guard }], guard := some (15, true) }) (v := ?_) rfl (by kernel_rfl) (by kernel_rfl) (by kernel_rfl) (by kernel_rfl) (fun _ _ _ h => h) (Or.inl ⟨by rfl, ?_⟩) trivial ?_
              rotate_left
              · intro w hSw
                clear hSw
                go_simp
                all_goals (with_reducible rfl)
              try simp only [Act.put, List.setIfInBounds_toArray, List.set_cons_zero, List.set_cons_succ]
              refine wpAnyT_take (i := 19) (oi := { dst := some 44, op := Go.Op.binOp Go.BinOp.add 3 (Go.Operand.tmp 43) (Go.Operand.const (Go.Value.int Go.IntKind.i64 2)) 3, type := 3, pos := "law.go:227", after := #[{ on := 18, ground := Go.Ground.data }, { on := 15, ground := Go.Ground.guard }], guard := some (15, true) }) (v := ?_) rfl (by kernel_rfl) (by kernel_rfl) (by kernel_rfl) (by kernel_rfl) (fun _ _ _ h => h) (Or.inl ⟨by rfl, ?_⟩) trivial ?_
              rotate_left
              · intro w hSw
                clear hSw
                go_simp
                all_goals (with_reducible rfl)
              try simp only [Act.put, List.setIfInBounds_toArray, List.set_cons_zero, List.set_cons_succ]
              refine wpAnyT_take (i := 20) (oi := { dst := some 45, op := Go.Op.binOp Go.BinOp.leq 3 (Go.Operand.tmp 44) (Go.Operand.const (Go.Value.int Go.IntKind.i64 400)) 3, type := 4, pos := "law.go:227", after := #[{ on := 19, ground := Go.Ground.data }, { on := 15, ground := Go.Ground.guard }], guard := some (15, true) }) (v := ?_) rfl (by kernel_rfl) (by kernel_rfl) (by kernel_rfl) (by kernel_rfl) (fun _ _ _ h => h) (Or.inl ⟨by rfl, ?_⟩) trivial ?_
              rotate_left
              · intro w hSw
                clear hSw
                go_simp
                all_goals (with_reducible rfl)
              try simp only [Act.put, List.setIfInBounds_toArray, List.set_cons_zero, List.set_cons_succ]
              refine wpAnyT_take (i := 21) (oi := { dst := some 46, op := Go.Op.binOp Go.BinOp.eql 4 (Go.Operand.tmp 42) (Go.Operand.tmp 45) 4, type := 4, pos := "law.go:227", after := #[{ on := 17, ground := Go.Ground.data }, { on := 20, ground := Go.Ground.data }, { on := 15, ground := Go.Ground.guard }], guard := some (15, true) }) (v := ?_) rfl (by kernel_rfl) (by kernel_rfl) (by kernel_rfl) (by kernel_rfl) (fun _ _ _ h => h) (Or.inl ⟨by rfl, ?_⟩) trivial ?_
              rotate_left
              · intro w hSw
                clear hSw
                go_simp
                all_goals (with_reducible rfl)
              try simp only [Act.put, List.setIfInBounds_toArray, List.set_cons_zero, List.set_cons_succ]
              refine wpAnyT_take (i := 22) (oi := { dst := some 47, op := Go.Op.pick (Go.Operand.tmp 40) (Go.Operand.tmp 46) (Go.Operand.const (Go.Value.bool false)), type := 4, pos := "law.go:227", after := #[{ on := 15, ground := Go.Ground.data }, { on := 21, ground := Go.Ground.data }], guard := none }) (v := ?_) rfl (by kernel_rfl) (by kernel_rfl) (by kernel_rfl) (by kernel_rfl) (fun _ _ _ h => h) (Or.inl ⟨by rfl, ?_⟩) trivial ?_
              rotate_left
              · intro w hSw
                clear hSw
                go_simp
                all_goals (with_reducible rfl)
              try simp only [Act.put, List.setIfInBounds_toArray, List.set_cons_zero, List.set_cons_succ]
              refine wpAnyT_take (i := 23) (oi := { dst := some 2, op := Go.Op.assign (Go.Operand.tmp 47), type := 4, pos := "law.go:227", after := #[{ on := 22, ground := Go.Ground.data }, { on := 15, ground := Go.Ground.chain }, { on := 0, ground := Go.Ground.phase }, { on := 1, ground := Go.Ground.phase }, { on := 2, ground := Go.Ground.phase }, { on := 3, ground := Go.Ground.phase }, { on := 4, ground := Go.Ground.phase }, { on := 5, ground := Go.Ground.phase }, { on := 6, ground := Go.Ground.phase }, { on := 7, ground := Go.Ground.phase }, { on := 8, ground := Go.Ground.phase }, { on := 9, ground := Go.Ground.phase }, { on := 10, ground := Go.Ground.phase }, { on := 11, ground := Go.Ground.phase }, { on := 12, ground := Go.Ground.phase }, { on := 13, ground := Go.Ground.phase }, { on := 14, ground := Go.Ground.phase }, { on := 15, ground := Go.Ground.phase }, { on := 16, ground := Go.Ground.phase }, { on := 17, ground := Go.Ground.phase }, { on := 18, ground := Go.Ground.phase }, { on := 19, ground := Go.Ground.phase }, { on := 20, ground := Go.Ground.phase }, { on := 21, ground := Go.Ground.phase }, { on := 22, ground := Go.Ground.phase }], guard := none }) (v := ?_) rfl (by kernel_rfl) (by kernel_rfl) (by kernel_rfl) (by kernel_rfl) (fun _ _ _ h => h) (Or.inl ⟨by rfl, ?_⟩) trivial ?_
              rotate_left
              · intro w hSw
                clear hSw
                go_simp
                all_goals (with_reducible rfl)
              try simp only [Act.put, List.setIfInBounds_toArray, List.set_cons_zero, List.set_cons_succ]
              refine wpAnyT_done (by kernel_rfl) ?_ _
              go_wp2_with fail
              go_ret
              exact ⟨rfl, Z2.out.dn⟩
            · refine step_insert (H := Unit) (by rfl) _ _ _ 53 (by rfl) 4 3 (bool_keyed Tryd.underlying4) Tryd.underlying53 (plainElem Tryd.prog 3) _ _ _ (by rfl) Z2.out.map (by unfold maxLen; decide) _ _ (.bool false) (by rfl) (by rfl) (keyOf_bool_mk Tryd.underlying4 false) (.lit (.int .i64 0)) [] (plainElem_int Tryd.underlying3 (by decide)) ?_
              intro w9 hm9 hg9
              have Z2 := Lib.hid (Z2.out.ins hm9 hg9)
              clear hm9 hg9
              refine hK.out _ _ trivial (fun hHeld => ?_)
              clear hHeld hK K
              try simp only [Act.put]
              refine wpAnyT_take (i := 8) (oi := { dst := some 33, op := Go.Op.move (Go.Operand.tmp 32), type := 53, pos := "law.go:227", after := #[{ on := 5, ground := Go.Ground.data }, { on := 6, ground := Go.Ground.data }, { on := 7, ground := Go.Ground.data }], guard := none }) (v := ?_) rfl (by kernel_rfl) (by kernel_rfl) (by kernel_rfl) (by kernel_rfl) (fun _ _ _ h => h) (Or.inl ⟨by rfl, ?_⟩) trivial ?_
              rotate_left
              · intro w hSw
                clear hSw
                go_simp
                all_goals (with_reducible rfl)
              try simp only [Act.put, List.setIfInBounds_toArray, List.set_cons_zero, List.set_cons_succ]
              refine wpAnyT_two (i := 1) (j := 12) (oi := { dst := some 28, op := Go.Op.call { callee := Go.Callee.value (Go.Operand.func 39), args := #[Go.Operand.tmp 27], argTypes := #[48] }, type := 51, pos := "law.go:227", after := #[{ on := 0, ground := Go.Ground.data }], guard := none }) (oj := { dst := some 37, op := Go.Op.lookup 53 (Go.Operand.tmp 33) (Go.Operand.tmp 36) false, type := 3, pos := "law.go:227", after := #[{ on := 8, ground := Go.Ground.data }, { on := 11, ground := Go.Ground.data }], guard := none }) (by kernel_rfl) rfl rfl (fun K hK => ?_) (fun K hK => ?_)
              · go_simp
                go_at_call 39
                refine (LiAt.opens Z2.out hS').mono ?_
                rintro e w8 ⟨a8, c8, rfl, hA8⟩
                have Z2 := Lib.hid hA8
                clear hA8
                go_wp2_with fail
                refine hK.out _ _ trivial (fun hHeld => ?_)
                clear hHeld hK K
                try simp only [Act.put, List.setIfInBounds_toArray, List.set_cons_zero, List.set_cons_succ]
                refine wpAnyT_take (i := 2) (oi := { dst := some 29, op := Go.Op.call { callee := Go.Callee.builtin Go.Builtin.len, args := #[Go.Operand.tmp 28], argTypes := #[51] }, type := 3, pos := "law.go:227", after := #[{ on := 1, ground := Go.Ground.data }], guard := none }) (v := ?_) rfl (by kernel_rfl) (by kernel_rfl) (by kernel_rfl) (by kernel_rfl) (fun _ _ _ h => h) (Or.inl ⟨by rfl, ?_⟩) trivial ?_
                rotate_left
                · intro w hSw
                  clear hSw
                  go_simp
                  all_goals (with_reducible rfl)
                try simp only [Act.put, List.setIfInBounds_toArray, List.set_cons_zero, List.set_cons_succ]
                refine wpAnyT_one (i := 12) (o := { dst := some 37, op := Go.Op.lookup 53 (Go.Operand.tmp 33) (Go.Operand.tmp 36) false, type := 3, pos := "law.go:227", after := #[{ on := 8, ground := Go.Ground.data }, { on := 11, ground := Go.Ground.data }], guard := none }) (by kernel_rfl) rfl (fun K hK => ?_)
                refine step_lookup (H := Unit) (by rfl) _ _ 53 (by rfl) 4 3 .i64 (bool_keyed Tryd.underlying4) Tryd.underlying53 Tryd.underlying3 (Tryd.zeroValue3 _) _ _ _ (by rfl) Z2.out.map _ (.bool true) (by rfl) (keyOf_bool_mk Tryd.underlying4 true) 2 (by rfl) ?_
                refine hK.out _ _ trivial (fun hHeld => ?_)
                clear hHeld hK K
                try simp only [Act.put, List.setIfInBounds_toArray, List.set_cons_zero, List.set_cons_succ]
                refine wpAnyT_take (i := 13) (oi := { dst := some 38, op := Go.Op.binOp Go.BinOp.add 3 (Go.Operand.tmp 31) (Go.Operand.tmp 37) 3, type := 3, pos := "law.go:227", after := #[{ on := 4, ground := Go.Ground.data }, { on := 12, ground := Go.Ground.data }], guard := none }) (v := ?_) rfl (by kernel_rfl) (by kernel_rfl) (by kernel_rfl) (by kernel_rfl) (fun _ _ _ h => h) (Or.inl ⟨by rfl, ?_⟩) trivial ?_
                rotate_left
                · intro w hSw
                  clear hSw
                  go_simp
                  all_goals (with_reducible rfl)
                try simp only [Act.put, List.setIfInBounds_toArray, List.set_cons_zero, List.set_cons_succ]
                try simp only [hw]
                try simp only [hw3]
                try simp only [hw2]
                refine wpAnyT_take (i := 14) (oi := { dst := some 39, op := Go.Op.binOp Go.BinOp.eql 3 (Go.Operand.tmp 29) (Go.Operand.tmp 38) 3, type := 4, pos := "law.go:227", after := #[{ on := 2, ground := Go.Ground.data }, { on := 13, ground := Go.Ground.data }], guard := none }) (v := ?_) rfl (by kernel_rfl) (by kernel_rfl) (by kernel_rfl) (by kernel_rfl) (fun _ _ _ h => h) (Or.inl ⟨by rfl, ?_⟩) trivial ?_
                rotate_left
                · intro w hSw
                  clear hSw
                  go_simp
                  all_goals (with_reducible rfl)
                try simp only [Act.put, List.setIfInBounds_toArray, List.set_cons_zero, List.set_cons_succ]
                try simp only [he]
                refine wpAnyT_take (i := 15) (oi := { dst := some 40, op := Go.Op.move (Go.Operand.tmp 39), type := 4, pos := "law.go:227", after := #[{ on := 14, ground := Go.Ground.data }, { on := 1, ground := Go.Ground.chain }], guard := none }) (v := ?_) rfl (by kernel_rfl) (by kernel_rfl) (by kernel_rfl) (by kernel_rfl) (fun _ _ _ h => h) (Or.inl ⟨by rfl, ?_⟩) trivial ?_
                rotate_left
                · intro w hSw
                  clear hSw
                  go_simp
                  all_goals (with_reducible rfl)
                try simp only [Act.put, List.setIfInBounds_toArray, List.set_cons_zero, List.set_cons_succ]
                refine wpAnyT_take (i := 16) (oi := { dst := some 41, op := Go.Op.move (Go.Operand.tmp 6), type := 25, pos := "law.go:227", after := #[{ on := 15, ground := Go.Ground.guard }], guard := some (15, true) }) (v := ?_) rfl (by kernel_rfl) (by kernel_rfl) (by kernel_rfl) (by kernel_rfl) (fun _ _ _ h => h) (Or.inl ⟨by rfl, ?_⟩) trivial ?_
                rotate_left
                · intro w hSw
                  clear hSw
                  go_simp
                  all_goals (with_reducible rfl)
                try simp only [Act.put, List.setIfInBounds_toArray, List.set_cons_zero, List.set_cons_succ]
                refine wpAnyT_take (i := 17) (oi := { dst := some 42, op := Go.Op.binOp Go.BinOp.eql 25 (Go.Operand.tmp 41) (Go.Operand.const (Go.Value.int Go.IntKind.i64 0)) 25, type := 4, pos := "law.go:227", after := #[{ on := 16, ground := Go.Ground.data }, { on := 15, ground := Go.Ground.guard }], guard := some (15, true) }) (v := ?_) rfl (by kernel_rfl) (by kernel_rfl) (by kernel_rfl) (by kernel_rfl) (fun _ _ _ h => h) (Or.inl ⟨by rfl, ?_⟩) trivial ?_
                rotate_left
                · intro w hSw
                  clear hSw
                  go_simp
                  all_goals (with_reducible rfl)
                try simp only [Act.put, List.setIfInBounds_toArray, List.set_cons_zero, List.set_cons_succ]
                refine wpAnyT_take (i := 18) (oi := { dst := some 43, op := Go.Op.move (Go.Operand.tmp 5), type := 3, pos := "law.go:227", after := #[{ on := 15, ground := Go.Ground.guard }], guard := some (15, true) }) (v := ?_) rfl (by kernel_rfl) (by kernel_rfl) (by kernel_rfl) (by kernel_rfl) (fun _ _ _ h => h) (Or.inl ⟨by rfl, ?_⟩) trivial ?_
                rotate_left
                · intro w hSw
                  clear hSw
                  go_simp
                  all_goals (with_reducible rfl)
                try simp only [Act.put, List.setIfInBounds_toArray, List.set_cons_zero, List.set_cons_succ]
                refine wpAnyT_take (i := 19) (oi := { dst := some 44, op := Go.Op.binOp Go.BinOp.add 3 (Go.Operand.tmp 43) (Go.Operand.const (Go.Value.int Go.IntKind.i64 2)) 3, type := 3, pos := "law.go:227", after := #[{ on := 18, ground := Go.Ground.data }, { on := 15, ground := Go.Ground.guard }], guard := some (15, true) }) (v := ?_) rfl (by kernel_rfl) (by kernel_rfl) (by kernel_rfl) (by kernel_rfl) (fun _ _ _ h => h) (Or.inl ⟨by rfl, ?_⟩) trivial ?_
                rotate_left
                · intro w hSw
                  clear hSw
                  go_simp
                  all_goals (with_reducible rfl)
                try simp only [Act.put, List.setIfInBounds_toArray, List.set_cons_zero, List.set_cons_succ]
                refine wpAnyT_take (i := 20) (oi := { dst := some 45, op := Go.Op.binOp Go.BinOp.leq 3 (Go.Operand.tmp 44) (Go.Operand.const (Go.Value.int Go.IntKind.i64 400)) 3, type := 4, pos := "law.go:227", after := #[{ on := 19, ground := Go.Ground.data }, { on := 15, ground := Go.Ground.guard }], guard := some (15, true) }) (v := ?_) rfl (by kernel_rfl) (by kernel_rfl) (by kernel_rfl) (by kernel_rfl) (fun _ _ _ h => h) (Or.inl ⟨by rfl, ?_⟩) trivial ?_
                rotate_left
                · intro w hSw
                  clear hSw
                  go_simp
                  all_goals (with_reducible rfl)
                try simp only [Act.put, List.setIfInBounds_toArray, List.set_cons_zero, List.set_cons_succ]
                refine wpAnyT_take (i := 21) (oi := { dst := some 46, op := Go.Op.binOp Go.BinOp.eql 4 (Go.Operand.tmp 42) (Go.Operand.tmp 45) 4, type := 4, pos := "law.go:227", after := #[{ on := 17, ground := Go.Ground.data }, { on := 20, ground := Go.Ground.data }, { on := 15, ground := Go.Ground.guard }], guard := some (15, true) }) (v := ?_) rfl (by kernel_rfl) (by kernel_rfl) (by kernel_rfl) (by kernel_rfl) (fun _ _ _ h => h) (Or.inl ⟨by rfl, ?_⟩) trivial ?_
                rotate_left
                · intro w hSw
                  clear hSw
                  go_simp
                  all_goals (with_reducible rfl)
                try simp only [Act.put, List.setIfInBounds_toArray, List.set_cons_zero, List.set_cons_succ]
                refine wpAnyT_take (i := 22) (oi := { dst := some 47, op := Go.Op.pick (Go.Operand.tmp 40) (Go.Operand.tmp 46) (Go.Operand.const (Go.Value.bool false)), type := 4, pos := "law.go:227", after := #[{ on := 15, ground := Go.Ground.data }, { on := 21, ground := Go.Ground.data }], guard := none }) (v := ?_) rfl (by kernel_rfl) (by kernel_rfl) (by kernel_rfl) (by kernel_rfl) (fun _ _ _ h => h) (Or.inl ⟨by rfl, ?_⟩) trivial ?_
                rotate_left
                · intro w hSw
                  clear hSw
                  go_simp
                  all_goals (with_reducible rfl)
                try simp only [Act.put, List.setIfInBounds_toArray, List.set_cons_zero, List.set_cons_succ]
                refine wpAnyT_take (i := 23) (oi := { dst := some 2, op := Go.Op.assign (Go.Operand.tmp 47), type := 4, pos := "law.go:227", after := #[{ on := 22, ground := Go.Ground.data }, { on := 15, ground := Go.Ground.chain }, { on := 0, ground := Go.Ground.phase }, { on := 1, ground := Go.Ground.phase }, { on := 2, ground := Go.Ground.phase }, { on := 3, ground := Go.Ground.phase }, { on := 4, ground := Go.Ground.phase }, { on := 5, ground := Go.Ground.phase }, { on := 6, ground := Go.Ground.phase }, { on := 7, ground := Go.Ground.phase }, { on := 8, ground := Go.Ground.phase }, { on := 9, ground := Go.Ground.phase }, { on := 10, ground := Go.Ground.phase }, { on := 11, ground := Go.Ground.phase }, { on := 12, ground := Go.Ground.phase }, { on := 13, ground := Go.Ground.phase }, { on := 14, ground := Go.Ground.phase }, { on := 15, ground := Go.Ground.phase }, { on := 16, ground := Go.Ground.phase }, { on := 17, ground := Go.Ground.phase }, { on := 18, ground := Go.Ground.phase }, { on := 19, ground := Go.Ground.phase }, { on := 20, ground := Go.Ground.phase }, { on := 21, ground := Go.Ground.phase }, { on := 22, ground := Go.Ground.phase }], guard := none }) (v := ?_) rfl (by kernel_rfl) (by kernel_rfl) (by kernel_rfl) (by kernel_rfl) (fun _ _ _ h => h) (Or.inl ⟨by rfl, ?_⟩) trivial ?_
                rotate_left
                · intro w hSw
                  clear hSw
                  go_simp
                  all_goals (with_reducible rfl)
                try simp only [Act.put, List.setIfInBounds_toArray, List.set_cons_zero, List.set_cons_succ]
                refine wpAnyT_done (by kernel_rfl) ?_ _
                go_wp2_with fail
                go_ret
                exact ⟨rfl, Z2.out.dn⟩
              · refine step_lookup (H := Unit) (by rfl) _ _ 53 (by rfl) 4 3 .i64 (bool_keyed Tryd.underlying4) Tryd.underlying53 Tryd.underlying3 (Tryd.zeroValue3 _) _ _ _ (by rfl) Z2.out.map _ (.bool true) (by rfl) (keyOf_bool_mk Tryd.underlying4 true) 2 (by rfl) ?_
                refine hK.out _ _ trivial (fun hHeld => ?_)
                clear hHeld hK K
                try simp only [Act.put, List.setIfInBounds_toArray, List.set_cons_zero, List.set_cons_succ]
                refine wpAnyT_take (i := 13) (oi := { dst := some 38, op := Go.Op.binOp Go.BinOp.add 3 (Go.Operand.tmp 31) (Go.Operand.tmp 37) 3, type := 3, pos := "law.go:227", after := #[{ on := 4, ground := Go.Ground.data }, { on := 12, ground := Go.Ground.data }], guard := none }) (v := ?_) rfl (by kernel_rfl) (by kernel_rfl) (by kernel_rfl) (by kernel_rfl) (fun _ _ _ h => h) (Or.inl ⟨by rfl, ?_⟩) trivial ?_
                rotate_left
                · intro w hSw
                  clear hSw
                  go_simp
                  all_goals (with_reducible rfl)
                try simp only [Act.put, List.setIfInBounds_toArray, List.set_cons_zero, List.set_cons_succ]
                try simp only [hw]
                try simp only [hw3]
                try simp only [hw2]
                refine wpAnyT_one (i := 1) (o := { dst := some 28, op := Go.Op.call { callee := Go.Callee.value (Go.Operand.func 39), args := #[Go.Operand.tmp 27], argTypes := #[48] }, type := 51, pos := "law.go:227", after := #[{ on := 0, ground := Go.Ground.data }], guard := none }) (by kernel_rfl) rfl (fun K hK => ?_)
                go_simp
                go_at_call 39
                refine (LiAt.opens Z2.out hS').mono ?_
                rintro e w8 ⟨a8, c8, rfl, hA8⟩
                have Z2 := Lib.hid hA8
                clear hA8
                go_wp2_with fail
                refine hK.out _ _ trivial (fun hHeld => ?_)
                clear hHeld hK K
                try simp only [Act.put, List.setIfInBounds_toArray, List.set_cons_zero, List.set_cons_succ]
                refine wpAnyT_take (i := 2) (oi := { dst := some 29, op := Go.Op.call { callee := Go.Callee.builtin Go.Builtin.len, args := #[Go.Operand.tmp 28], argTypes := #[51] }, type := 3, pos := "law.go:227", after := #[{ on := 1, ground := Go.Ground.data }], guard := none }) (v := ?_) rfl (by kernel_rfl) (by kernel_rfl) (by kernel_rfl) (by kernel_rfl) (fun _ _ _ h => h) (Or.inl ⟨by rfl, ?_⟩) trivial ?_
                rotate_left
                · intro w hSw
                  clear hSw
                  go_simp
                  all_goals (with_reducible rfl)
                try simp only [Act.put, List.setIfInBounds_toArray, List.set_cons_zero, List.set_cons_succ]
                refine wpAnyT_take (i := 14) (oi := { dst := some 39, op := Go.Op.binOp Go.BinOp.eql 3 (Go.Operand.tmp 29) (Go.Operand.tmp 38) 3, type := 4, pos := "law.go:227", after := #[{ on := 2, ground := Go.Ground.data }, { on := 13, ground := Go.Ground.data }], guard := none }) (v := ?_) rfl (by kernel_rfl) (by kernel_rfl) (by kernel_rfl) (by kernel_rfl) (fun _ _ _ h => h) (Or.inl ⟨by rfl, ?_⟩) trivial ?_
                rotate_left
                · intro w hSw
                  clear hSw
                  go_simp
                  all_goals (with_reducible rfl)
                try simp only [Act.put, List.setIfInBounds_toArray, List.set_cons_zero, List.set_cons_succ]
                try simp only [he]
                refine wpAnyT_take (i := 15) (oi := { dst := some 40, op := Go.Op.move (Go.Operand.tmp 39), type := 4, pos := "law.go:227", after := #[{ on := 14, ground := Go.Ground.data }, { on := 1, ground := Go.Ground.chain }], guard := none }) (v := ?_) rfl (by kernel_rfl) (by kernel_rfl) (by kernel_rfl) (by kernel_rfl) (fun _ _ _ h => h) (Or.inl ⟨by rfl, ?_⟩) trivial ?_
                rotate_left
                · intro w hSw
                  clear hSw
                  go_simp
                  all_goals (with_reducible rfl)
                try simp only [Act.put, List.setIfInBounds_toArray, List.set_cons_zero, List.set_cons_succ]
                refine wpAnyT_take (i := 16) (oi := { dst := some 41, op := Go.Op.move (Go.Operand.tmp 6), type := 25, pos := "law.go:227", after := #[{ on := 15, ground := Go.Ground.guard }], guard := some (15, true) }) (v := ?_) rfl (by kernel_rfl) (by kernel_rfl) (by kernel_rfl) (by kernel_rfl) (fun _ _ _ h => h) (Or.inl ⟨by rfl, ?_⟩) trivial ?_
                rotate_left
                · intro w hSw
                  clear hSw
                  go_simp
                  all_goals (with_reducible rfl)
                try simp only [Act.put, List.setIfInBounds_toArray, List.set_cons_zero, List.set_cons_succ]
                refine wpAnyT_take (i := 17) (oi := { dst := some 42, op := Go.Op.binOp Go.BinOp.eql 25 (Go.Operand.tmp 41) (Go.Operand.const (Go.Value.int Go.IntKind.i64 0)) 25, type := 4, pos := "law.go:227", after := #[{ on := 16, ground := Go.Ground.data }, { on := 15, ground := Go.Ground.guard }], guard := some (15, true) }) (v := ?_) rfl (by kernel_rfl) (by kernel_rfl) (by kernel_rfl) (by kernel_rfl) (fun _ _ _ h => h) (Or.inl ⟨by rfl, ?_⟩) trivial ?_
                rotate_left
                · intro w hSw
                  clear hSw
                  go_simp
                  all_goals (with_reducible rfl)
                try simp only [Act.put, List.setIfInBounds_toArray, List.set_cons_zero, List.set_cons_succ]
                refine wpAnyT_take (i := 18) (oi := { dst := some 43, op := Go.Op.move (Go.Operand.tmp 5), type := 3, pos := "law.go:227", after := #[{ on := 15, ground := Go.Ground.guard }], guard := some (15, true) }) (v := ?_) rfl (by kernel_rfl) (by kernel_rfl) (by kernel_rfl) (by kernel_rfl) (fun _ _ _ h => h) (Or.inl ⟨by rfl, ?_⟩) trivial ?_
                rotate_left
                · intro w hSw
                  clear hSw
                  go_simp
                  all_goals (with_reducible rfl)
                try simp only [Act.put, List.setIfInBounds_toArray, List.set_cons_zero, List.set_cons_succ]
                refine wpAnyT_take (i := 19) (oi := { dst := some 44, op := Go.Op.binOp Go.BinOp.add 3 (Go.Operand.tmp 43) (Go.Operand.const (Go.Value.int Go.IntKind.i64 2)) 3, type := 3, pos := "law.go:227", after := #[{ on := 18, ground := Go.Ground.data }, { on := 15, ground := Go.Ground.guard }], guard := some (15, true) }) (v := ?_) rfl (by kernel_rfl) (by kernel_rfl) (by kernel_rfl) (by kernel_rfl) (fun _ _ _ h => h) (Or.inl ⟨by rfl, ?_⟩) trivial ?_
                rotate_left
                · intro w hSw
                  clear hSw
                  go_simp
                  all_goals (with_reducible rfl)
                try simp only [Act.put, List.setIfInBounds_toArray, List.set_cons_zero, List.set_cons_succ]
                refine wpAnyT_take (i := 20) (oi := { dst := some 45, op := Go.Op.binOp Go.BinOp.leq 3 (Go.Operand.tmp 44) (Go.Operand.const (Go.Value.int Go.IntKind.i64 400)) 3, type := 4, pos := "law.go:227", after := #[{ on := 19, ground := Go.Ground.data }, { on := 15, ground := Go.Ground.guard }], guard := some (15, true) }) (v := ?_) rfl (by kernel_rfl) (by kernel_rfl) (by kernel_rfl) (by kernel_rfl) (fun _ _ _ h => h) (Or.inl ⟨by rfl, ?_⟩) trivial ?_
                rotate_left
                · intro w hSw
                  clear hSw
                  go_simp
                  all_goals (with_reducible rfl)
                try simp only [Act.put, List.setIfInBounds_toArray, List.set_cons_zero, List.set_cons_succ]
                refine wpAnyT_take (i := 21) (oi := { dst := some 46, op := Go.Op.binOp Go.BinOp.eql 4 (Go.Operand.tmp 42) (Go.Operand.tmp 45) 4, type := 4, pos := "law.go:227", after := #[{ on := 17, ground := Go.Ground.data }, { on := 20, ground := Go.Ground.data }, { on := 15, ground := Go.Ground.guard }], guard := some (15, true) }) (v := ?_) rfl (by kernel_rfl) (by kernel_rfl) (by kernel_rfl) (by kernel_rfl) (fun _ _ _ h => h) (Or.inl ⟨by rfl, ?_⟩) trivial ?_
                rotate_left
                · intro w hSw
                  clear hSw
                  go_simp
                  all_goals (with_reducible rfl)
                try simp only [Act.put, List.setIfInBounds_toArray, List.set_cons_zero, List.set_cons_succ]
                refine wpAnyT_take (i := 22) (oi := { dst := some 47, op := Go.Op.pick (Go.Operand.tmp 40) (Go.Operand.tmp 46) (Go.Operand.const (Go.Value.bool false)), type := 4, pos := "law.go:227", after := #[{ on := 15, ground := Go.Ground.data }, { on := 21, ground := Go.Ground.data }], guard := none }) (v := ?_) rfl (by kernel_rfl) (by kernel_rfl) (by kernel_rfl) (by kernel_rfl) (fun _ _ _ h => h) (Or.inl ⟨by rfl, ?_⟩) trivial ?_
                rotate_left
                · intro w hSw
                  clear hSw
                  go_simp
                  all_goals (with_reducible rfl)
                try simp only [Act.put, List.setIfInBounds_toArray, List.set_cons_zero, List.set_cons_succ]
                refine wpAnyT_take (i := 23) (oi := { dst := some 2, op := Go.Op.assign (Go.Operand.tmp 47), type := 4, pos := "law.go:227", after := #[{ on := 22, ground := Go.Ground.data }, { on := 15, ground := Go.Ground.chain }, { on := 0, ground := Go.Ground.phase }, { on := 1, ground := Go.Ground.phase }, { on := 2, ground := Go.Ground.phase }, { on := 3, ground := Go.Ground.phase }, { on := 4, ground := Go.Ground.phase }, { on := 5, ground := Go.Ground.phase }, { on := 6, ground := Go.Ground.phase }, { on := 7, ground := Go.Ground.phase }, { on := 8, ground := Go.Ground.phase }, { on := 9, ground := Go.Ground.phase }, { on := 10, ground := Go.Ground.phase }, { on := 11, ground := Go.Ground.phase }, { on := 12, ground := Go.Ground.phase }, { on := 13, ground := Go.Ground.phase }, { on := 14, ground := Go.Ground.phase }, { on := 15, ground := Go.Ground.phase }, { on := 16, ground := Go.Ground.phase }, { on := 17, ground := Go.Ground.phase }, { on := 18, ground := Go.Ground.phase }, { on := 19, ground := Go.Ground.phase }, { on := 20, ground := Go.Ground.phase }, { on := 21, ground := Go.Ground.phase }, { on := 22, ground := Go.Ground.phase }], guard := none }) (v := ?_) rfl (by kernel_rfl) (by kernel_rfl) (by kernel_rfl) (by kernel_rfl) (fun _ _ _ h => h) (Or.inl ⟨by rfl, ?_⟩) trivial ?_
                rotate_left
                · intro w hSw
                  clear hSw
                  go_simp
                  all_goals (with_reducible rfl)
                try simp only [Act.put, List.setIfInBounds_toArray, List.set_cons_zero, List.set_cons_succ]
                refine wpAnyT_done (by kernel_rfl) ?_ _
                go_wp2_with fail
                go_ret
                exact ⟨rfl, Z2.out.dn⟩
          · refine step_insert (H := Unit) (by rfl) _ _ _ 53 (by rfl) 4 3 (bool_keyed Tryd.underlying4) Tryd.underlying53 (plainElem Tryd.prog 3) _ _ _ (by rfl) Z2.out.map (by unfold maxLen; decide) _ _ (.bool false) (by rfl) (by rfl) (keyOf_bool_mk Tryd.underlying4 false) (.lit (.int .i64 0)) [] (plainElem_int Tryd.underlying3 (by decide)) ?_
            intro w9 hm9 hg9
            have Z2 := Lib.hid (Z2.out.ins hm9 hg9)
            clear hm9 hg9
            refine hK.out _ _ trivial (fun hHeld => ?_)
            clear hHeld hK K
            try simp only [Act.put]
            refine wpAnyT_two (i := 1) (j := 6) (oi := { dst := some 28, op := Go.Op.call { callee := Go.Callee.value (Go.Operand.func 39), args := #[Go.Operand.tmp 27], argTypes := #[48] }, type := 51, pos := "law.go:227", after := #[{ on := 0, ground := Go.Ground.data }], guard := none }) (oj := { dst := none, op := Go.Op.insert 53 (Go.Operand.tmp 32) (Go.Operand.const (Go.Value.bool true)) (Go.Operand.const (Go.Value.int Go.IntKind.i64 2)), type := 0, pos := "law.go:227", after := #[{ on := 5, ground := Go.Ground.data }], guard := none }) (by kernel_rfl) rfl rfl (fun K hK => ?_) (fun K hK => ?_)
            · go_simp
              go_at_call 39
              refine (LiAt.opens Z2.out hS').mono ?_
              rintro e w8 ⟨a8, c8, rfl, hA8⟩
              have Z2 := Lib.hid hA8
              clear hA8
              go_wp2_with fail
              refine hK.out _ _ trivial (fun hHeld => ?_)
              clear hHeld hK K
              try simp only [Act.put, List.setIfInBounds_toArray, List.set_cons_zero, List.set_cons_succ]
              refine wpAnyT_take (i := 2) (oi := { dst := some 29, op := Go.Op.call { callee := Go.Callee.builtin Go.Builtin.len, args := #[Go.Operand.tmp 28], argTypes := #[51] }, type := 3, pos := "law.go:227", after := #[{ on := 1, ground := Go.Ground.data }], guard := none }) (v := ?_) rfl (by kernel_rfl) (by kernel_rfl) (by kernel_rfl) (by kernel_rfl) (fun _ _ _ h => h) (Or.inl ⟨by rfl, ?_⟩) trivial ?_
              rotate_left
              · intro w hSw
                clear hSw
                go_simp
                all_goals (with_reducible rfl)
              try simp only [Act.put, List.setIfInBounds_toArray, List.set_cons_zero, List.set_cons_succ]
              refine wpAnyT_one (i := 6) (o := { dst := none, op := Go.Op.insert 53 (Go.Operand.tmp 32) (Go.Operand.const (Go.Value.bool true)) (Go.Operand.const (Go.Value.int Go.IntKind.i64 2)), type := 0, pos := "law.go:227", after := #[{ on := 5, ground := Go.Ground.data }], guard := none }) (by kernel_rfl) rfl (fun K hK => ?_)
              refine step_insert (H := Unit) (by rfl) _ _ _ 53 (by rfl) 4 3 (bool_keyed Tryd.underlying4) Tryd.underlying53 (plainElem Tryd.prog 3) _ _ _ (by rfl) Z2.out.map (by unfold maxLen; decide) _ _ (.bool true) (by rfl) (by rfl) (keyOf_bool_mk Tryd.underlying4 true) (.lit (.int .i64 2)) [] (plainElem_int Tryd.underlying3 (by decide)) ?_
              intro w9 hm9 hg9
              have Z2 := Lib.hid (Z2.out.ins hm9 hg9)
              clear hm9 hg9
              refine hK.out _ _ trivial (fun hHeld => ?_)
              clear hHeld hK K
              try simp only [Act.put]
              refine wpAnyT_take (i := 8) (oi := { dst := some 33, op := Go.Op.move (Go.Operand.tmp 32), type := 53, pos := "law.go:227", after := #[{ on := 5, ground := Go.Ground.data }, { on := 6, ground := Go.Ground.data }, { on := 7, ground := Go.Ground.data }], guard := none }) (v := ?_) rfl (by kernel_rfl) (by kernel_rfl) (by kernel_rfl) (by kernel_rfl) (fun _ _ _ h => h) (Or.inl ⟨by rfl, ?_⟩) trivial ?_
              rotate_left
              · intro w hSw
                clear hSw
                go_simp
                all_goals (with_reducible rfl)
              try simp only [Act.put, List.setIfInBounds_toArray, List.set_cons_zero, List.set_cons_succ]
              refine wpAnyT_one (i := 12) (o := { dst := some 37, op := Go.Op.lookup 53 (Go.Operand.tmp 33) (Go.Operand.tmp 36) false, type := 3, pos := "law.go:227", after := #[{ on := 8, ground := Go.Ground.data }, { on := 11, ground := Go.Ground.data }], guard := none }) (by kernel_rfl) rfl (fun K hK => ?_)
              refine step_lookup (H := Unit) (by rfl) _ _ 53 (by rfl) 4 3 .i64 (bool_keyed Tryd.underlying4) Tryd.underlying53 Tryd.underlying3 (Tryd.zeroValue3 _) _ _ _ (by rfl) Z2.out.map _ (.bool true) (by rfl) (keyOf_bool_mk Tryd.underlying4 true) 2 (by rfl) ?_
              refine hK.out _ _ trivial (fun hHeld => ?_)
              clear hHeld hK K
              try simp only [Act.put, List.setIfInBounds_toArray, List.set_cons_zero, List.set_cons_succ]
              refine wpAnyT_take (i := 13) (oi := { dst := some 38, op := Go.Op.binOp Go.BinOp.add 3 (Go.Operand.tmp 31) (Go.Operand.tmp 37) 3, type := 3, pos := "law.go:227", after := #[{ on := 4, ground := Go.Ground.data }, { on := 12, ground := Go.Ground.data }], guard := none }) (v := ?_) rfl (by kernel_rfl) (by kernel_rfl) (by kernel_rfl) (by kernel_rfl) (fun _ _ _ h => h) (Or.inl ⟨by rfl, ?_⟩) trivial ?_
              rotate_left
              · intro w hSw
                clear hSw
                go_simp
                all_goals (with_reducible rfl)
              try simp only [Act.put, List.setIfInBounds_toArray, List.set_cons_zero, List.set_cons_succ]
              try simp only [hw]
              try simp only [hw3]
              try simp only [hw2]
              refine wpAnyT_take (i := 14) (oi := { dst := some 39, op := Go.Op.binOp Go.BinOp.eql 3 (Go.Operand.tmp 29) (Go.Operand.tmp 38) 3, type := 4, pos := "law.go:227", after := #[{ on := 2, ground := Go.Ground.data }, { on := 13, ground := Go.Ground.data }], guard := none }) (v := ?_) rfl (by kernel_rfl) (by kernel_rfl) (by kernel_rfl) (by kernel_rfl) (fun _ _ _ h => h) (Or.inl ⟨by rfl, ?_⟩) trivial ?_
              rotate_left
              · intro w hSw
                clear hSw
                go_simp
                all_goals (with_reducible rfl)
              try simp only [Act.put, List.setIfInBounds_toArray, List.set_cons_zero, List.set_cons_succ]
              try simp only [he]
              refine wpAnyT_take (i := 15) (oi := { dst := some 40, op := Go.Op.move (Go.Operand.tmp 39), type := 4, pos := "law.go:227", after := #[{ on := 14, ground := Go.Ground.data }, { on := 1, ground := Go.Ground.chain }], guard := none }) (v := ?_) rfl (by kernel_rfl) (by kernel_rfl) (by kernel_rfl) (by kernel_rfl) (fun _ _ _ h => h) (Or.inl ⟨by rfl, ?_⟩) trivial ?_
              rotate_left
              · intro w hSw
                clear hSw
                go_simp
                all_goals (with_reducible rfl)
              try simp only [Act.put, List.setIfInBounds_toArray, List.set_cons_zero, List.set_cons_succ]
              refine wpAnyT_take (i := 16) (oi := { dst := some 41, op := Go.Op.move (Go.Operand.tmp 6), type := 25, pos := "law.go:227", after := #[{ on := 15, ground := Go.Ground.guard }], guard := some (15, true) }) (v := ?_) rfl (by kernel_rfl) (by kernel_rfl) (by kernel_rfl) (by kernel_rfl) (fun _ _ _ h => h) (Or.inl ⟨by rfl, ?_⟩) trivial ?_
              rotate_left
              · intro w hSw
                clear hSw
                go_simp
                all_goals (with_reducible rfl)
              try simp only [Act.put, List.setIfInBounds_toArray, List.set_cons_zero, List.set_cons_succ]
              refine wpAnyT_take (i := 17) (oi := { dst := some 42, op := Go.Op.binOp Go.BinOp.eql 25 (Go.Operand.tmp 41) (Go.Operand.const (Go.Value.int Go.IntKind.i64 0)) 25, type := 4, pos := "law.go:227", after := #[{ on := 16, ground := Go.Ground.data }, { on := 15, ground := Go.Ground.guard }], guard := some (15, true) }) (v := ?_) rfl (by kernel_rfl) (by kernel_rfl) (by kernel_rfl) (by kernel_rfl) (fun _ _ _ h => h) (Or.inl ⟨by rfl, ?_⟩) trivial ?_
              rotate_left
              · intro w hSw
                clear hSw
                go_simp
                all_goals (with_reducible rfl)
              try simp only [Act.put, List.setIfInBounds_toArray, List.set_cons_zero, List.set_cons_succ]
              refine wpAnyT_take (i := 18) (oi := { dst := some 43, op := Go.Op.move (Go.Operand.tmp 5), type := 3, pos := "law.go:227", after := #[{ on := 15, ground := Go.Ground.guard }], guard := some (15, true) }) (v := ?_) rfl (by kernel_rfl) (by kernel_rfl) (by kernel_rfl) (by kernel_rfl) (fun _ _ _ h => h) (Or.inl ⟨by rfl, ?_⟩) trivial ?_
              rotate_left
              · intro w hSw
                clear hSw
                go_simp
                all_goals (with_reducible rfl)
              try simp only [Act.put, List.setIfInBounds_toArray, List.set_cons_zero, List.set_cons_succ]
              refine wpAnyT_take (i := 19) (oi := { dst := some 44, op := Go.Op.binOp Go.BinOp.add 3 (Go.Operand.tmp 43) (Go.Operand.const (Go.Value.int Go.IntKind.i64 2)) 3, type := 3, pos := "law.go:227", after := #[{ on := 18, ground := Go.Ground.data }, { on := 15, ground := Go.Ground.guard }], guard := some (15, true) }) (v := ?_) rfl (by kernel_rfl) (by kernel_rfl) (by kernel_rfl) (by kernel_rfl) (fun _ _ _ h => h) (Or.inl ⟨by rfl, ?_⟩) trivial ?_
              rotate_left
              · intro w hSw
                clear hSw
                go_simp
                all_goals (with_reducible rfl)
              try simp only [Act.put, List.setIfInBounds_toArray, List.set_cons_zero, List.set_cons_succ]
              refine wpAnyT_take (i := 20) (oi := { dst := some 45, op := Go.Op.binOp Go.BinOp.leq 3 (Go.Operand.tmp 44) (Go.Operand.const (Go.Value.int Go.IntKind.i64 400)) 3, type := 4, pos := "law.go:227", after := #[{ on := 19, ground := Go.Ground.data }, { on := 15, ground := Go.Ground.guard }], guard := some (15, true) }) (v := ?_) rfl (by kernel_rfl) (by kernel_rfl) (by kernel_rfl) (by kernel_rfl) (fun _ _ _ h => h) (Or.inl ⟨by rfl, ?_⟩) trivial ?_
              rotate_left
              · intro w hSw
                clear hSw
                go_simp
                all_goals (with_reducible rfl)
              try simp only [Act.put, List.setIfInBounds_toArray, List.set_cons_zero, List.set_cons_succ]
              refine wpAnyT_take (i := 21) (oi := { dst := some 46, op := Go.Op.binOp Go.BinOp.eql 4 (Go.Operand.tmp 42) (Go.Operand.tmp 45) 4, type := 4, pos := "law.go:227", after := #[{ on := 17, ground := Go.Ground.data }, { on := 20, ground := Go.Ground.data }, { on := 15, ground := Go.Ground.guard }], guard := some (15, true) }) (v := ?_) rfl (by kernel_rfl) (by kernel_rfl) (by kernel_rfl) (by kernel_rfl) (fun _ _ _ h => h) (Or.inl ⟨by rfl, ?_⟩) trivial ?_
              rotate_left
              · intro w hSw
                clear hSw
                go_simp
                all_goals (with_reducible rfl)
              try simp only [Act.put, List.setIfInBounds_toArray, List.set_cons_zero, List.set_cons_succ]
              refine wpAnyT_take (i := 22) (oi := { dst := some 47, op := Go.Op.pick (Go.Operand.tmp 40) (Go.Operand.tmp 46) (Go.Operand.const (Go.Value.bool false)), type := 4, pos := "law.go:227", after := #[{ on := 15, ground := Go.Ground.data }, { on := 21, ground := Go.Ground.data }], guard := none }) (v := ?_) rfl (by kernel_rfl) (by kernel_rfl) (by kernel_rfl) (by kernel_rfl) (fun _ _ _ h => h) (Or.inl ⟨by rfl, ?_⟩) trivial ?_
              rotate_left
              · intro w hSw
                clear hSw
                go_simp
                all_goals (with_reducible rfl)
              try simp only [Act.put, List.setIfInBounds_toArray, List.set_cons_zero, List.set_cons_succ]
              refine wpAnyT_take (i := 23) (oi := { dst := some 2, op := Go.Op.assign (Go.Operand.tmp 47), type := 4, pos := "law.go:227", after := #[{ on := 22, ground := Go.Ground.data }, { on := 15, ground := Go.Ground.chain }, { on := 0, ground := Go.Ground.phase }, { on := 1, ground := Go.Ground.phase }, { on := 2, ground := Go.Ground.phase }, { on := 3, ground := Go.Ground.phase }, { on := 4, ground := Go.Ground.phase }, { on := 5, ground := Go.Ground.phase }, { on := 6, ground := Go.Ground.phase }, { on := 7, ground := Go.Ground.phase }, { on := 8, ground := Go.Ground.phase }, { on := 9, ground := Go.Ground.phase }, { on := 10, ground := Go.Ground.phase }, { on := 11, ground := Go.Ground.phase }, { on := 12, ground := Go.Ground.phase }, { on := 13, ground := Go.Ground.phase }, { on := 14, ground := Go.Ground.phase }, { on := 15, ground := Go.Ground.phase }, { on := 16, ground := Go.Ground.phase }, { on := 17, ground := Go.Ground.phase }, { on := 18, ground := Go.Ground.phase }, { on := 19, ground := Go.Ground.phase }, { on := 20, ground := Go.Ground.phase }, { on := 21, ground := Go.Ground.phase }, { on := 22, ground := Go.Ground.phase }], guard := none }) (v := ?_) rfl (by kernel_rfl) (by kernel_rfl) (by kernel_rfl) (by kernel_rfl) (fun _ _ _ h => h) (Or.inl ⟨by rfl, ?_⟩) trivial ?_
              rotate_left
              · intro w hSw
                clear hSw
                go_simp
                all_goals (with_reducible rfl)
              try simp only [Act.put, List.setIfInBounds_toArray, List.set_cons_zero, List.set_cons_succ]
              refine wpAnyT_done (by kernel_rfl) ?_ _
              go_wp2_with fail
              go_ret
              exact ⟨rfl, Z2.out.dn⟩
            · refine step_insert (H := Unit) (by rfl) _ _ _ 53 (by rfl) 4 3 (bool_keyed Tryd.underlying4) Tryd.underlying53 (plainElem Tryd.prog 3) _ _ _ (by rfl) Z2.out.map (by unfold maxLen; decide) _ _ (.bool true) (by rfl) (by rfl) (keyOf_bool_mk Tryd.underlying4 true) (.lit (.int .i64 2)) [] (plainElem_int Tryd.underlying3 (by decide)) ?_
              intro w9 hm9 hg9
              have Z2 := Lib.hid (Z2.out.ins hm9 hg9)
              clear hm9 hg9
              refine hK.out _ _ trivial (fun hHeld => ?_)
              clear hHeld hK K
              try simp only [Act.put]
              refine wpAnyT_take (i := 8) (oi := { dst := some 33, op := Go.Op.move (Go.Operand.tmp 32), type := 53, pos := "law.go:227", after := #[{ on := 5, ground := Go.Ground.data }, { on := 6, ground := Go.Ground.data }, { on := 7, ground := Go.Ground.data }], guard := none }) (v := ?_) rfl (by kernel_rfl) (by kernel_rfl) (by kernel_rfl) (by kernel_rfl) (fun _ _ _ h => h) (Or.inl ⟨by rfl, ?_⟩) trivial ?_
              rotate_left
              · intro w hSw
                clear hSw
                go_simp
                all_goals (with_reducible rfl)
              try simp only [Act.put, List.setIfInBounds_toArray, List.set_cons_zero, List.set_cons_succ]
              refine wpAnyT_two (i := 1) (j := 12) (oi := { dst := some 28, op := Go.Op.call { callee := Go.Callee.value (Go.Operand.func 39), args := #[Go.Operand.tmp 27], argTypes := #[48] }, type := 51, pos := "law.go:227", after := #[{ on := 0, ground := Go.Ground.data }], guard := none }) (oj := { dst := some 37, op := Go.Op.lookup 53 (Go.Operand.tmp 33) (Go.Operand.tmp 36) false, type := 3, pos := "law.go:227", after := #[{ on := 8, ground := Go.Ground.data }, { on := 11, ground := Go.Ground.data }], guard := none }) (by kernel_rfl) rfl rfl (fun K hK => ?_) (fun K hK => ?_)
              · go_simp
                go_at_call 39
                refine (LiAt.opens Z2.out hS').mono ?_
                rintro e w8 ⟨a8, c8, rfl, hA8⟩
                have Z2 := Lib.hid hA8
                clear hA8
                go_wp2_with fail
                refine hK.out _ _ trivial (fun hHeld => ?_)
                clear hHeld hK K
                try simp only [Act.put, List.setIfInBounds_toArray, List.set_cons_zero, List.set_cons_succ]
                refine wpAnyT_take (i := 2) (oi := { dst := some 29, op := Go.Op.call { callee := Go.Callee.builtin Go.Builtin.len, args := #[Go.Operand.tmp 28], argTypes := #[51] }, type := 3, pos := "law.go:227", after := #[{ on := 1, ground := Go.Ground.data }], guard := none }) (v := ?_) rfl (by kernel_rfl) (by kernel_rfl) (by kernel_rfl) (by kernel_rfl) (fun _ _ _ h => h) (Or.inl ⟨by rfl, ?_⟩) trivial ?_
                rotate_left
                · intro w hSw
                  clear hSw
                  go_simp
                  all_goals (with_reducible rfl)
                try simp only [Act.put, List.setIfInBounds_toArray, List.set_cons_zero, List.set_cons_succ]
                refine wpAnyT_one (i := 12) (o := { dst := some 37, op := Go.Op.lookup 53 (Go.Operand.tmp 33) (Go.Operand.tmp 36) false, type := 3, pos := "law.go:227", after := #[{ on := 8, ground := Go.Ground.data }, { on := 11, ground := Go.Ground.data }], guard := none }) (by kernel_rfl) rfl (fun K hK => ?_)
                refine step_lookup (H := Unit) (by rfl) _ _ 53 (by rfl) 4 3 .i64 (bool_keyed Tryd.underlying4) Tryd.underlying53 Tryd.underlying3 (Tryd.zeroValue3 _) _ _ _ (by rfl) Z2.out.map _ (.bool true) (by rfl) (keyOf_bool_mk Tryd.underlying4 true) 2 (by rfl) ?_
                refine hK.out _ _ trivial (fun hHeld => ?_)
                clear hHeld hK K
                try simp only [Act.put, List.setIfInBounds_toArray, List.set_cons_zero, List.set_cons_succ]
                refine wpAnyT_take (i := 13) (oi := { dst := some 38, op := Go.Op.binOp Go.BinOp.add 3 (Go.Operand.tmp 31) (Go.Operand.tmp 37) 3, type := 3, pos := "law.go:227", after := #[{ on := 4, ground := Go.Ground.data }, { on := 12, ground := Go.Ground.data }], guard := none }) (v := ?_) rfl (by kernel_rfl) (by kernel_rfl) (by kernel_rfl) (by kernel_rfl) (fun _ _ _ h => h) (Or.inl ⟨by rfl, ?_⟩) trivial ?_
                rotate_left
                · intro w hSw
                  clear hSw
                  go_simp
                  all_goals (with_reducible rfl)
                try simp only [Act.put, List.setIfInBounds_toArray, List.set_cons_zero, List.set_cons_succ]
                try simp only [hw]
                try simp only [hw3]
                try simp only [hw2]
                refine wpAnyT_take (i := 14) (oi := { dst := some 39, op := Go.Op.binOp Go.BinOp.eql 3 (Go.Operand.tmp 29) (Go.Operand.tmp 38) 3, type := 4, pos := "law.go:227", after := #[{ on := 2, ground := Go.Ground.data }, { on := 13, ground := Go.Ground.data }], guard := none }) (v := ?_) rfl (by kernel_rfl) (by kernel_rfl) (by kernel_rfl) (by kernel_rfl) (fun _ _ _ h => h) (Or.inl ⟨by rfl, ?_⟩) trivial ?_
                rotate_left
                · intro w hSw
                  clear hSw
                  go_simp
                  all_goals (with_reducible rfl)
                try simp only [Act.put, List.setIfInBounds_toArray, List.set_cons_zero, List.set_cons_succ]
                try simp only [he]
                refine wpAnyT_take (i := 15) (oi := { dst := some 40, op := Go.Op.move (Go.Operand.tmp 39), type := 4, pos := "law.go:227", after := #[{ on := 14, ground := Go.Ground.data }, { on := 1, ground := Go.Ground.chain }], guard := none }) (v := ?_) rfl (by kernel_rfl) (by kernel_rfl) (by kernel_rfl) (by kernel_rfl) (fun _ _ _ h => h) (Or.inl ⟨by rfl, ?_⟩) trivial ?_
                rotate_left
                · intro w hSw
                  clear hSw
                  go_simp
                  all_goals (with_reducible rfl)
                try simp only [Act.put, List.setIfInBounds_toArray, List.set_cons_zero, List.set_cons_succ]
                refine wpAnyT_take (i := 16) (oi := { dst := some 41, op := Go.Op.move (Go.Operand.tmp 6), type := 25, pos := "law.go:227", after := #[{ on := 15, ground := Go.Ground.guard }], guard := some (15, true) }) (v := ?_) rfl (by kernel_rfl) (by kernel_rfl) (by kernel_rfl) (by kernel_rfl) (fun _ _ _ h => h) (Or.inl ⟨by rfl, ?_⟩) trivial ?_
                rotate_left
                · intro w hSw
                  clear hSw
                  go_simp
                  all_goals (with_reducible rfl)
                try simp only [Act.put, List.setIfInBounds_toArray, List.set_cons_zero, List.set_cons_succ]
                refine wpAnyT_take (i := 17) (oi := { dst := some 42, op := Go.Op.binOp Go.BinOp.eql 25 (Go.Operand.tmp 41) (Go.Operand.const (Go.Value.int Go.IntKind.i64 0)) 25, type := 4, pos := "law.go:227", after := #[{ on := 16, ground := Go.Ground.data }, { on := 15, ground := Go.Ground.guard }], guard := some (15, true) }) (v := ?_) rfl (by kernel_rfl) (by kernel_rfl) (by kernel_rfl) (by kernel_rfl) (fun _ _ _ h => h) (Or.inl ⟨by rfl, ?_⟩) trivial ?_
                rotate_left
                · intro w hSw
                  clear hSw
                  go_simp
                  all_goals (with_reducible rfl)
                try simp only [Act.put, List.setIfInBounds_toArray, List.set_cons_zero, List.set_cons_succ]
                refine wpAnyT_take (i := 18) (oi := { dst := some 43, op := Go.Op.move (Go.Operand.tmp 5), type := 3, pos := "law.go:227", after := #[{ on := 15, ground := Go.Ground.guard }], guard := some (15, true) }) (v := ?_) rfl (by kernel_rfl) (by kernel_rfl) (by kernel_rfl) (by kernel_rfl) (fun _ _ _ h => h) (Or.inl ⟨by rfl, ?_⟩) trivial ?_
                rotate_left
                · intro w hSw
                  clear hSw
                  go_simp
                  all_goals (with_reducible rfl)
                try simp only [Act.put, List.setIfInBounds_toArray, List.set_cons_zero, List.set_cons_succ]
                refine wpAnyT_take (i := 19) (oi := { dst := some 44, op := Go.Op.binOp Go.BinOp.add 3 (Go.Operand.tmp 43) (Go.Operand.const (Go.Value.int Go.IntKind.i64 2)) 3, type := 3, pos := "law.go:227", after := #[{ on := 18, ground := Go.Ground.data }, { on := 15, ground := Go.Ground.guard }], guard := some (15, true) }) (v := ?_) rfl (by kernel_rfl) (by kernel_rfl) (by kernel_rfl) (by kernel_rfl) (fun _ _ _ h => h) (Or.inl ⟨by rfl, ?_⟩) trivial ?_
                rotate_left
                · intro w hSw
                  clear hSw
                  go_simp
                  all_goals (with_reducible rfl)
                try simp only [Act.put, List.setIfInBounds_toArray, List.set_cons_zero, List.set_cons_succ]
                refine wpAnyT_take (i := 20) (oi := { dst := some 45, op := Go.Op.binOp Go.BinOp.leq 3 (Go.Operand.tmp 44) (Go.Operand.const (Go.Value.int Go.IntKind.i64 400)) 3, type := 4, pos := "law.go:227", after := #[{ on := 19, ground := Go.Ground.data }, { on := 15, ground := Go.Ground.guard }], guard := some (15, true) }) (v := ?_) rfl (by kernel_rfl) (by kernel_rfl) (by kernel_rfl) (by kernel_rfl) (fun _ _ _ h => h) (Or.inl ⟨by rfl, ?_⟩) trivial ?_
                rotate_left
                · intro w hSw
                  clear hSw
                  go_simp
                  all_goals (with_reducible rfl)
                try simp only [Act.put, List.setIfInBounds_toArray, List.set_cons_zero, List.set_cons_succ]
                refine wpAnyT_take (i := 21) (oi := { dst := some 46, op := Go.Op.binOp Go.BinOp.eql 4 (Go.Operand.tmp 42) (Go.Operand.tmp 45) 4, type := 4, pos := "law.go:227", after := #[{ on := 17, ground := Go.Ground.data }, { on := 20, ground := Go.Ground.data }, { on := 15, ground := Go.Ground.guard }], guard := some (15, true) }) (v := ?_) rfl (by kernel_rfl) (by kernel_rfl) (by kernel_rfl) (by kernel_rfl) (fun _ _ _ h => h) (Or.inl ⟨by rfl, ?_⟩) trivial ?_
                rotate_left
                · intro w hSw
                  clear hSw
                  go_simp
                  all_goals (with_reducible rfl)
                try simp only [Act.put, List.setIfInBounds_toArray, List.set_cons_zero, List.set_cons_succ]
                refine wpAnyT_take (i := 22) (oi := { dst := some 47, op := Go.Op.pick (Go.Operand.tmp 40) (Go.Operand.tmp 46) (Go.Operand.const (Go.Value.bool false)), type := 4, pos := "law.go:227", after := #[{ on := 15, ground := Go.Ground.data }, { on := 21, ground := Go.Ground.data }], guard := none }) (v := ?_) rfl (by kernel_rfl) (by kernel_rfl) (by kernel_rfl) (by kernel_rfl) (fun _ _ _ h => h) (Or.inl ⟨by rfl, ?_⟩) trivial ?_
                rotate_left
                · intro w hSw
                  clear hSw
                  go_simp
                  all_goals (with_reducible rfl)
                try simp only [Act.put, List.setIfInBounds_toArray, List.set_cons_zero, List.set_cons_succ]
                refine wpAnyT_take (i := 23) (oi := { dst := some 2, op := Go.Op.assign (Go.Operand.tmp 47), type := 4, pos := "law.go:227", after := #[{ on := 22, ground := Go.Ground.data }, { on := 15, ground := Go.Ground.chain }, { on := 0, ground := Go.Ground.phase }, { on := 1, ground := Go.Ground.phase }, { on := 2, ground := Go.Ground.phase }, { on := 3, ground := Go.Ground.phase }, { on := 4, ground := Go.Ground.phase }, { on := 5, ground := Go.Ground.phase }, { on := 6, ground := Go.Ground.phase }, { on := 7, ground := Go.Ground.phase }, { on := 8, ground := Go.Ground.phase }, { on := 9, ground := Go.Ground.phase }, { on := 10, ground := Go.Ground.phase }, { on := 11, ground := Go.Ground.phase }, { on := 12, ground := Go.Ground.phase }, { on := 13, ground := Go.Ground.phase }, { on := 14, ground := Go.Ground.phase }, { on := 15, ground := Go.Ground.phase }, { on := 16, ground := Go.Ground.phase }, { on := 17, ground := Go.Ground.phase }, { on := 18, ground := Go.Ground.phase }, { on := 19, ground := Go.Ground.phase }, { on := 20, ground := Go.Ground.phase }, { on := 21, ground := Go.Ground.phase }, { on := 22, ground := Go.Ground.phase }], guard := none }) (v := ?_) rfl (by kernel_rfl) (by kernel_rfl) (by kernel_rfl) (by kernel_rfl) (fun _ _ _ h => h) (Or.inl ⟨by rfl, ?_⟩) trivial ?_
                rotate_left
                · intro w hSw
                  clear hSw
                  go_simp
                  all_goals (with_reducible rfl)
                try simp only [Act.put, List.setIfInBounds_toArray, List.set_cons_zero, List.set_cons_succ]
                refine wpAnyT_done (by kernel_rfl) ?_ _
                go_wp2_with fail
                go_ret
                exact ⟨rfl, Z2.out.dn⟩
              · refine step_lookup (H := Unit) (by rfl) _ _ 53 (by rfl) 4 3 .i64 (bool_keyed Tryd.underlying4) Tryd.underlying53 Tryd.underlying3 (Tryd.zeroValue3 _) _ _ _ (by rfl) Z2.out.map _ (.bool true) (by rfl) (keyOf_bool_mk Tryd.underlying4 true) 2 (by rfl) ?_
                refine hK.out _ _ trivial (fun hHeld => ?_)
                clear hHeld hK K
                try simp only [Act.put, List.setIfInBounds_toArray, List.set_cons_zero, List.set_cons_succ]
                refine wpAnyT_take (i := 13) (oi := { dst := some 38, op := Go.Op.binOp Go.BinOp.add 3 (Go.Operand.tmp 31) (Go.Operand.tmp 37) 3, type := 3, pos := "law.go:227", after := #[{ on := 4, ground := Go.Ground.data }, { on := 12, ground := Go.Ground.data }], guard := none }) (v := ?_) rfl (by kernel_rfl) (by kernel_rfl) (by kernel_rfl) (by kernel_rfl) (fun _ _ _ h => h) (Or.inl ⟨by rfl, ?_⟩) trivial ?_
                rotate_left
                · intro w hSw
                  clear hSw
                  go_simp
                  all_goals (with_reducible rfl)
                try simp only [Act.put, List.setIfInBounds_toArray, List.set_cons_zero, List.set_cons_succ]
                try simp only [hw]
                try simp only [hw3]
                try simp only [hw2]
                refine wpAnyT_one (i := 1) (o := { dst := some 28, op := Go.Op.call { callee := Go.Callee.value (Go.Operand.func 39), args := #[Go.Operand.tmp 27], argTypes := #[48] }, type := 51, pos := "law.go:227", after := #[{ on := 0, ground := Go.Ground.data }], guard := none }) (by kernel_rfl) rfl (fun K hK => ?_)
                go_simp
                go_at_call 39
                refine (LiAt.opens Z2.out hS').mono ?_
                rintro e w8 ⟨a8, c8, rfl, hA8⟩
                have Z2 := Lib.hid hA8
                clear hA8
                go_wp2_with fail
                refine hK.out _ _ trivial (fun hHeld => ?_)
                clear hHeld hK K
                try simp only [Act.put, List.setIfInBounds_toArray, List.set_cons_zero, List.set_cons_succ]
                refine wpAnyT_take (i := 2) (oi := { dst := some 29, op := Go.Op.call { callee := Go.Callee.builtin Go.Builtin.len, args := #[Go.Operand.tmp 28], argTypes := #[51] }, type := 3, pos := "law.go:227", after := #[{ on := 1, ground := Go.Ground.data }], guard := none }) (v := ?_) rfl (by kernel_rfl) (by kernel_rfl) (by kernel_rfl) (by kernel_rfl) (fun _ _ _ h => h) (Or.inl ⟨by rfl, ?_⟩) trivial ?_
                rotate_left
                · intro w hSw
                  clear hSw
                  go_simp
                  all_goals (with_reducible rfl)
                try simp only [Act.put, List.setIfInBounds_toArray, List.set_cons_zero, List.set_cons_succ]
                refine wpAnyT_take (i := 14) (oi := { dst := some 39, op := Go.Op.binOp Go.BinOp.eql 3 (Go.Operand.tmp 29) (Go.Operand.tmp 38) 3, type := 4, pos := "law.go:227", after := #[{ on := 2, ground := Go.Ground.data }, { on := 13, ground := Go.Ground.data }], guard := none }) (v := ?_) rfl (by kernel_rfl) (by kernel_rfl) (by kernel_rfl) (by kernel_rfl) (fun _ _ _ h => h) (Or.inl ⟨by rfl, ?_⟩) trivial ?_
                rotate_left
                · intro w hSw
                  clear hSw
                  go_simp
                  all_goals (with_reducible rfl)
                try simp only [Act.put, List.setIfInBounds_toArray, List.set_cons_zero, List.set_cons_succ]
                try simp only [he]
                refine wpAnyT_take (i := 15) (oi := { dst := some 40, op := Go.Op.move (Go.Operand.tmp 39), type := 4, pos := "law.go:227", after := #[{ on := 14, ground := Go.Ground.data }, { on := 1, ground := Go.Ground.chain }], guard := none }) (v := ?_) rfl (by kernel_rfl) (by kernel_rfl) (by kernel_rfl) (by kernel_rfl) (fun _ _ _ h => h) (Or.inl ⟨by rfl, ?_⟩) trivial ?_
                rotate_left
                · intro w hSw
                  clear hSw
                  go_simp
                  all_goals (with_reducible rfl)
                try simp only [Act.put, List.setIfInBounds_toArray, List.set_cons_zero, List.set_cons_succ]
                refine wpAnyT_take (i := 16) (oi := { dst := some 41, op := Go.Op.move (Go.Operand.tmp 6), type := 25, pos := "law.go:227", after := #[{ on := 15, ground := Go.Ground.guard }], guard := some (15, true) }) (v := ?_) rfl (by kernel_rfl) (by kernel_rfl) (by kernel_rfl) (by kernel_rfl) (fun _ _ _ h => h) (Or.inl ⟨by rfl, ?_⟩) trivial ?_
                rotate_left
                · intro w hSw
                  clear hSw
                  go_simp
                  all_goals (with_reducible rfl)
                try simp only [Act.put, List.setIfInBounds_toArray, List.set_cons_zero, List.set_cons_succ]
                refine wpAnyT_take (i := 17) (oi := { dst := some 42, op := Go.Op.binOp Go.BinOp.eql 25 (Go.Operand.tmp 41) (Go.Operand.const (Go.Value.int Go.IntKind.i64 0)) 25, type := 4, pos := "law.go:227", after := #[{ on := 16, ground := Go.Ground.data }, { on := 15, ground := Go.Ground.guard }], guard := some (15, true) }) (v := ?_) rfl (by kernel_rfl) (by kernel_rfl) (by kernel_rfl) (by kernel_rfl) (fun _ _ _ h => h) (Or.inl ⟨by rfl, ?_⟩) trivial ?_
                rotate_left
                · intro w hSw
                  clear hSw
                  go_simp
                  all_goals (with_reducible rfl)
                try simp only [Act.put, List.setIfInBounds_toArray, List.set_cons_zero, List.set_cons_succ]
                refine wpAnyT_take (i := 18) (oi := { dst := some 43, op := Go.Op.move (Go.Operand.tmp 5), type := 3, pos := "law.go:227", after := #[{ on := 15, ground := Go.Ground.guard }], guard := some (15, true) }) (v := ?_) rfl (by kernel_rfl) (by kernel_rfl) (by kernel_rfl) (by kernel_rfl) (fun _ _ _ h => h) (Or.inl ⟨by rfl, ?_⟩) trivial ?_
                rotate_left
                · intro w hSw
                  clear hSw
                  go_simp
                  all_goals (with_reducible rfl)
                try simp only [Act.put, List.setIfInBounds_toArray, List.set_cons_zero, List.set_cons_succ]
                refine wpAnyT_take (i := 19) (oi := { dst := some 44, op := Go.Op.binOp Go.BinOp.add 3 (Go.Operand.tmp 43) (Go.Operand.const (Go.Value.int Go.IntKind.i64 2)) 3, type := 3, pos := "law.go:227", after := #[{ on := 18, ground := Go.Ground.data }, { on := 15, ground := Go.Ground.guard }], guard := some (15, true) }) (v := ?_) rfl (by kernel_rfl) (by kernel_rfl) (by kernel_rfl) (by kernel_rfl) (fun _ _ _ h => h) (Or.inl ⟨by rfl, ?_⟩) trivial ?_
                rotate_left
                · intro w hSw
                  clear hSw
                  go_simp
                  all_goals (with_reducible rfl)
                try simp only [Act.put, List.setIfInBounds_toArray, List.set_cons_zero, List.set_cons_succ]
                refine wpAnyT_take (i := 20) (oi := { dst := some 45, op := Go.Op.binOp Go.BinOp.leq 3 (Go.Operand.tmp 44) (Go.Operand.const (Go.Value.int Go.IntKind.i64 400)) 3, type := 4, pos := "law.go:227", after := #[{ on := 19, ground := Go.Ground.data }, { on := 15, ground := Go.Ground.guard }], guard := some (15, true) }) (v := ?_) rfl (by kernel_rfl) (by kernel_rfl) (by kernel_rfl) (by kernel_rfl) (fun _ _ _ h => h) (Or.inl ⟨by rfl, ?_⟩) trivial ?_
                rotate_left
                · intro w hSw
                  clear hSw
                  go_simp
                  all_goals (with_reducible rfl)
                try simp only [Act.put, List.setIfInBounds_toArray, List.set_cons_zero, List.set_cons_succ]
                refine wpAnyT_take (i := 21) (oi := { dst := some 46, op := Go.Op.binOp Go.BinOp.eql 4 (Go.Operand.tmp 42) (Go.Operand.tmp 45) 4, type := 4, pos := "law.go:227", after := #[{ on := 17, ground := Go.Ground.data }, { on := 20, ground := Go.Ground.data }, { on := 15, ground := Go.Ground.guard }], guard := some (15, true) }) (v := ?_) rfl (by kernel_rfl) (by kernel_rfl) (by kernel_rfl) (by kernel_rfl) (fun _ _ _ h => h) (Or.inl ⟨by rfl, ?_⟩) trivial ?_
                rotate_left
                · intro w hSw
                  clear hSw
                  go_simp
                  all_goals (with_reducible rfl)
                try simp only [Act.put, List.setIfInBounds_toArray, List.set_cons_zero, List.set_cons_succ]
                refine wpAnyT_take (i := 22) (oi := { dst := some 47, op := Go.Op.pick (Go.Operand.tmp 40) (Go.Operand.tmp 46) (Go.Operand.const (Go.Value.bool false)), type := 4, pos := "law.go:227", after := #[{ on := 15, ground := Go.Ground.data }, { on := 21, ground := Go.Ground.data }], guard := none }) (v := ?_) rfl (by kernel_rfl) (by kernel_rfl) (by kernel_rfl) (by kernel_rfl) (fun _ _ _ h => h) (Or.inl ⟨by rfl, ?_⟩) trivial ?_
                rotate_left
                · intro w hSw
                  clear hSw
                  go_simp
                  all_goals (with_reducible rfl)
                try simp only [Act.put, List.setIfInBounds_toArray, List.set_cons_zero, List.set_cons_succ]
                refine wpAnyT_take (i := 23) (oi := { dst := some 2, op := Go.Op.assign (Go.Operand.tmp 47), type := 4, pos := "law.go:227", after := #[{ on := 22, ground := Go.Ground.data }, { on := 15, ground := Go.Ground.chain }, { on := 0, ground := Go.Ground.phase }, { on := 1, ground := Go.Ground.phase }, { on := 2, ground := Go.Ground.phase }, { on := 3, ground := Go.Ground.phase }, { on := 4, ground := Go.Ground.phase }, { on := 5, ground := Go.Ground.phase }, { on := 6, ground := Go.Ground.phase }, { on := 7, ground := Go.Ground.phase }, { on := 8, ground := Go.Ground.phase }, { on := 9, ground := Go.Ground.phase }, { on := 10, ground := Go.Ground.phase }, { on := 11, ground := Go.Ground.phase }, { on := 12, ground := Go.Ground.phase }, { on := 13, ground := Go.Ground.phase }, { on := 14, ground := Go.Ground.phase }, { on := 15, ground := Go.Ground.phase }, { on := 16, ground := Go.Ground.phase }, { on := 17, ground := Go.Ground.phase }, { on := 18, ground := Go.Ground.phase }, { on := 19, ground := Go.Ground.phase }, { on := 20, ground := Go.Ground.phase }, { on := 21, ground := Go.Ground.phase }, { on := 22, ground := Go.Ground.phase }], guard := none }) (v := ?_) rfl (by kernel_rfl) (by kernel_rfl) (by kernel_rfl) (by kernel_rfl) (fun _ _ _ h => h) (Or.inl ⟨by rfl, ?_⟩) trivial ?_
                rotate_left
                · intro w hSw
                  clear hSw
                  go_simp
                  all_goals (with_reducible rfl)
                try simp only [Act.put, List.setIfInBounds_toArray, List.set_cons_zero, List.set_cons_succ]
                refine wpAnyT_done (by kernel_rfl) ?_ _
                go_wp2_with fail
                go_ret
                exact ⟨rfl, Z2.out.dn⟩
      · rw [if_pos (by omega)] at hz2 ⊢
        have hT : T.opn.length = min i 400 := by omega
        clear hz2 hSl hS
        go_upto_region 12 with fail
        obtain ⟨mn, hmn⟩ : ∃ mn : Nat, min (i : Int) 400 = (mn : Int) := ⟨min i 400, by omega⟩
        have hw : IntKind.i64.wrap ((i : Int) + 2) = (i : Int) + 2 := IntWalk.i64_in _ (by omega)
        have hd : decide ((i : Int) + 2 ≤ 400) = false := by simp; omega
        have hw2 : IntKind.i64.wrap (mn : Int) = (mn : Int) := IntWalk.i64_in _ (by omega)
        have hw3 : IntKind.i64.wrap ((mn : Int) + 0) = (mn : Int) := IntWalk.i64_in _ (by omega)
        have he : ((T.opn.length : Int) == (mn : Int)) = true := by rw [hT]; simp; omega
        clear hT
        have A2 := Lib.hid (⟨_, A2.out.drew⟩ : ∃ F, Ow w w3.drew b T F)
        refine wp_region_tail 24 (S := fun _ => True) (by kernel_rfl) trivial (fun hHeld => ?_)
        clear hHeld
        simp only [List.size_toArray, List.length_cons, List.length_nil, Nat.zero_add, Nat.reduceAdd]
        refine wpAnyT_take (i := 0) (oi := { dst := some 27, op := Go.Op.move (Go.Operand.tmp 3), type := 48, pos := "law.go:227", after := #[], guard := none }) (v := ?_) rfl (by kernel_rfl) (by kernel_rfl) (by kernel_rfl) (by kernel_rfl) (fun _ _ _ h => h) (Or.inl ⟨by rfl, ?_⟩) trivial ?_
        rotate_left
        · intro w hSw
          clear hSw
          go_simp
          all_goals (with_reducible rfl)
        try simp only [Act.put, List.setIfInBounds_toArray, List.set_cons_zero, List.set_cons_succ]
        refine wpAnyT_take (i := 3) (oi := { dst := some 30, op := Go.Op.move (Go.Operand.tmp 5), type := 3, pos := "law.go:227", after := #[], guard := none }) (v := ?_) rfl (by kernel_rfl) (by kernel_rfl) (by kernel_rfl) (by kernel_rfl) (fun _ _ _ h => h) (Or.inl ⟨by rfl, ?_⟩) trivial ?_
        rotate_left
        · intro w hSw
          clear hSw
          go_simp
          all_goals (with_reducible rfl)
        try simp only [Act.put, List.setIfInBounds_toArray, List.set_cons_zero, List.set_cons_succ]
        refine wpAnyT_take (i := 4) (oi := { dst := some 31, op := Go.Op.call { callee := Go.Callee.builtin Go.Builtin.min, args := #[Go.Operand.tmp 30, Go.Operand.const (Go.Value.int Go.IntKind.i64 400)], argTypes := #[3, 3] }, type := 3, pos := "law.go:227", after := #[{ on := 3, ground := Go.Ground.data }], guard := none }) (v := ?_) rfl (by kernel_rfl) (by kernel_rfl) (by kernel_rfl) (by kernel_rfl) (fun _ _ _ h => h) (Or.inl ⟨by rfl, ?_⟩) trivial ?_
        rotate_left
        · intro w hSw
          clear hSw
          go_simp
          all_goals (with_reducible rfl)
        try simp only [Act.put, List.setIfInBounds_toArray, List.set_cons_zero, List.set_cons_succ]
        try simp only [hmn]
        refine wpAnyT_take (i := 9) (oi := { dst := some 34, op := Go.Op.move (Go.Operand.tmp 5), type := 3, pos := "law.go:227", after := #[], guard := none }) (v := ?_) rfl (by kernel_rfl) (by kernel_rfl) (by kernel_rfl) (by kernel_rfl) (fun _ _ _ h => h) (Or.inl ⟨by rfl, ?_⟩) trivial ?_
        rotate_left
        · intro w hSw
          clear hSw
          go_simp
          all_goals (with_reducible rfl)
        try simp only [Act.put, List.setIfInBounds_toArray, List.set_cons_zero, List.set_cons_succ]
        refine wpAnyT_take (i := 10) (oi := { dst := some 35, op := Go.Op.binOp Go.BinOp.add 3 (Go.Operand.tmp 34) (Go.Operand.const (Go.Value.int Go.IntKind.i64 2)) 3, type := 3, pos := "law.go:227", after := #[{ on := 9, ground := Go.Ground.data }], guard := none }) (v := ?_) rfl (by kernel_rfl) (by kernel_rfl) (by kernel_rfl) (by kernel_rfl) (fun _ _ _ h => h) (Or.inl ⟨by rfl, ?_⟩) trivial ?_
        rotate_left
        · intro w hSw
          clear hSw
          go_simp
          all_goals (with_reducible rfl)
        try simp only [Act.put, List.setIfInBounds_toArray, List.set_cons_zero, List.set_cons_succ]
        try simp only [hw]
        refine wpAnyT_take (i := 11) (oi := { dst := some 36, op := Go.Op.binOp Go.BinOp.leq 3 (Go.Operand.tmp 35) (Go.Operand.const (Go.Value.int Go.IntKind.i64 400)) 3, type := 4, pos := "law.go:227", after := #[{ on := 10, ground := Go.Ground.data }], guard := none }) (v := ?_) rfl (by kernel_rfl) (by kernel_rfl) (by kernel_rfl) (by kernel_rfl) (fun _ _ _ h => h) (Or.inl ⟨by rfl, ?_⟩) trivial ?_
        rotate_left
        · intro w hSw
          clear hSw
          go_simp
          all_goals (with_reducible rfl)
        try simp only [Act.put, List.setIfInBounds_toArray, List.set_cons_zero, List.set_cons_succ]
        try simp only [hd]
        refine wpAnyT_two (i := 1) (j := 5) (oi := { dst := some 28, op := Go.Op.call { callee := Go.Callee.value (Go.Operand.func 39), args := #[Go.Operand.tmp 27], argTypes := #[48] }, type := 51, pos := "law.go:227", after := #[{ on := 0, ground := Go.Ground.data }], guard := none }) (oj := { dst := some 32, op := Go.Op.makeMap 53 none, type := 53, pos := "law.go:227", after := #[], guard := none }) (by kernel_rfl) rfl rfl (fun K hK => ?_) (fun K hK => ?_)
        · go_simp
          go_at_call 39
          refine (li_open0 A2.out hS').mono ?_
          rintro e w8 ⟨a8, c8, rfl, hA8⟩
          have A2 := Lib.hid hA8
          clear hA8
          go_wp2_with fail
          refine hK.out _ _ trivial (fun hHeld => ?_)
          clear hHeld hK K
          try simp only [Act.put, List.setIfInBounds_toArray, List.set_cons_zero, List.set_cons_succ]
          refine wpAnyT_take (i := 2) (oi := { dst := some 29, op := Go.Op.call { callee := Go.Callee.builtin Go.Builtin.len, args := #[Go.Operand.tmp 28], argTypes := #[51] }, type := 3, pos := "law.go:227", after := #[{ on := 1, ground := Go.Ground.data }], guard := none }) (v := ?_) rfl (by kernel_rfl) (by kernel_rfl) (by kernel_rfl) (by kernel_rfl) (fun _ _ _ h => h) (Or.inl ⟨by rfl, ?_⟩) trivial ?_
          rotate_left
          · intro w hSw
            clear hSw
            go_simp
            all_goals (with_reducible rfl)
          try simp only [Act.put, List.setIfInBounds_toArray, List.set_cons_zero, List.set_cons_succ]
          refine wpAnyT_one (i := 5) (o := { dst := some 32, op := Go.Op.makeMap 53 none, type := 53, pos := "law.go:227", after := #[], guard := none }) (by kernel_rfl) rfl (fun K hK => ?_)
          refine step_makeMap (by rfl) 53 (by rfl) ?_
          have Z2 := Lib.hid (li_make A2.out)
          refine hK.out _ _ trivial (fun hHeld => ?_)
          clear hHeld hK K
          try simp only [Act.put, List.setIfInBounds_toArray, List.set_cons_zero, List.set_cons_succ]
          refine wpAnyT_two (i := 6) (j := 7) (oi := { dst := none, op := Go.Op.insert 53 (Go.Operand.tmp 32) (Go.Operand.const (Go.Value.bool true)) (Go.Operand.const (Go.Value.int Go.IntKind.i64 2)), type := 0, pos := "law.go:227", after := #[{ on := 5, ground := Go.Ground.data }], guard := none }) (oj := { dst := none, op := Go.Op.insert 53 (Go.Operand.tmp 32) (Go.Operand.const (Go.Value.bool false)) (Go.Operand.const (Go.Value.int Go.IntKind.i64 0)), type := 0, pos := "law.go:227", after := #[{ on := 5, ground := Go.Ground.data }], guard := none }) (by kernel_rfl) rfl rfl (fun K hK => ?_) (fun K hK => ?_)
          · refine step_insert (H := Unit) (by rfl) _ _ _ 53 (by rfl) 4 3 (bool_keyed Tryd.underlying4) Tryd.underlying53 (plainElem Tryd.prog 3) _ _ _ (by rfl) Z2.out.map (by unfold maxLen; decide) _ _ (.bool true) (by rfl) (by rfl) (keyOf_bool_mk Tryd.underlying4 true) (.lit (.int .i64 2)) [] (plainElem_int Tryd.underlying3 (by decide)) ?_
            intro w9 hm9 hg9
            have Z2 := Lib.hid (Z2.out.ins hm9 hg9)
            clear hm9 hg9
            refine hK.out _ _ trivial (fun hHeld => ?_)
            clear hHeld hK K
            try simp only [Act.put]
            refine wpAnyT_one (i := 7) (o := { dst := none, op := Go.Op.insert 53 (Go.Operand.tmp 32) (Go.Operand.const (Go.Value.bool false)) (Go.Operand.const (Go.Value.int Go.IntKind.i64 0)), type := 0, pos := "law.go:227", after := #[{ on := 5, ground := Go.Ground.data }], guard := none }) (by kernel_rfl) rfl (fun K hK => ?_)
            refine step_insert (H := Unit) (by rfl) _ _ _ 53 (by rfl) 4 3 (bool_keyed Tryd.underlying4) Tryd.underlying53 (plainElem Tryd.prog 3) _ _ _ (by rfl) Z2.out.map (by unfold maxLen; decide) _ _ (.bool false) (by rfl) (by rfl) (keyOf_bool_mk Tryd.underlying4 false) (.lit (.int .i64 0)) [] (plainElem_int Tryd.underlying3 (by decide)) ?_
            intro w9 hm9 hg9
            have Z2 := Lib.hid (Z2.out.ins hm9 hg9)
            clear hm9 hg9
            refine hK.out _ _ trivial (fun hHeld => ?_)
            clear hHeld hK K
            try simp only [Act.put]
            refine wpAnyT_take (i := 8) (oi := { dst := some 33, op := Go.Op.move (Go.Operand.tmp 32), type := 53, pos := "law.go:227", after := #[{ on := 5, ground := Go.Ground.data }, { on := 6, ground := Go.Ground.data }, { on := 7, ground := Go.Ground.data }], guard := none }) (v := ?_) rfl (by kernel_rfl) (by kernel_rfl) (by kernel_rfl) (by kernel_rfl) (fun _ _ _ h => h) (Or.inl ⟨by rfl, ?_⟩) trivial ?_
            rotate_left
            · intro w hSw
              clear hSw
              go_simp
              all_goals (with_reducible rfl)
            try simp only [Act.put, List.setIfInBounds_toArray, List.set_cons_zero, List.set_cons_succ]
            refine wpAnyT_one (i := 12) (o := { dst := some 37, op := Go.Op.lookup 53 (Go.Operand.tmp 33) (Go.Operand.tmp 36) false, type := 3, pos := "law.go:227", after := #[{ on := 8, ground := Go.Ground.data }, { on := 11, ground := Go.Ground.data }], guard := none }) (by kernel_rfl) rfl (fun K hK => ?_)
            refine step_lookup (H := Unit) (by rfl) _ _ 53 (by rfl) 4 3 .i64 (bool_keyed Tryd.underlying4) Tryd.underlying53 Tryd.underlying3 (Tryd.zeroValue3 _) _ _ _ (by rfl) Z2.out.map _ (.bool false) (by rfl) (keyOf_bool_mk Tryd.underlying4 false) 0 (by rfl) ?_
            refine hK.out _ _ trivial (fun hHeld => ?_)
            clear hHeld hK K
            try simp only [Act.put, List.setIfInBounds_toArray, List.set_cons_zero, List.set_cons_succ]
            refine wpAnyT_take (i := 13) (oi := { dst := some 38, op := Go.Op.binOp Go.BinOp.add 3 (Go.Operand.tmp 31) (Go.Operand.tmp 37) 3, type := 3, pos := "law.go:227", after := #[{ on := 4, ground := Go.Ground.data }, { on := 12, ground := Go.Ground.data }], guard := none }) (v := ?_) rfl (by kernel_rfl) (by kernel_rfl) (by kernel_rfl) (by kernel_rfl) (fun _ _ _ h => h) (Or.inl ⟨by rfl, ?_⟩) trivial ?_
            rotate_left
            · intro w hSw
              clear hSw
              go_simp
              all_goals (with_reducible rfl)
            try simp only [Act.put, List.setIfInBounds_toArray, List.set_cons_zero, List.set_cons_succ]
            try simp only [hw]
            try simp only [hw3]
            try simp only [hw2]
            refine wpAnyT_take (i := 14) (oi := { dst := some 39, op := Go.Op.binOp Go.BinOp.eql 3 (Go.Operand.tmp 29) (Go.Operand.tmp 38) 3, type := 4, pos := "law.go:227", after := #[{ on := 2, ground := Go.Ground.data }, { on := 13, ground := Go.Ground.data }], guard := none }) (v := ?_) rfl (by kernel_rfl) (by kernel_rfl) (by kernel_rfl) (by kernel_rfl) (fun _ _ _ h => h) (Or.inl ⟨by rfl, ?_⟩) trivial ?_
            rotate_left
            · intro w hSw
              clear hSw
              go_simp
              all_goals (with_reducible rfl)
            try simp only [Act.put, List.setIfInBounds_toArray, List.set_cons_zero, List.set_cons_succ]
            try simp only [he]
            refine wpAnyT_take (i := 15) (oi := { dst := some 40, op := Go.Op.move (Go.Operand.tmp 39), type := 4, pos := "law.go:227", after := #[{ on := 14, ground := Go.Ground.data }, { on := 1, ground := Go.Ground.chain }], guard := none }) (v := ?_) rfl (by kernel_rfl) (by kernel_rfl) (by kernel_rfl) (by kernel_rfl) (fun _ _ _ h => h) (Or.inl ⟨by rfl, ?_⟩) trivial ?_
            rotate_left
            · intro w hSw
              clear hSw
              go_simp
              all_goals (with_reducible rfl)
            try simp only [Act.put, List.setIfInBounds_toArray, List.set_cons_zero, List.set_cons_succ]
            refine wpAnyT_take (i := 16) (oi := { dst := some 41, op := Go.Op.move (Go.Operand.tmp 6), type := 25, pos := "law.go:227", after := #[{ on := 15, ground := Go.Ground.guard }], guard := some (15, true) }) (v := ?_) rfl (by kernel_rfl) (by kernel_rfl) (by kernel_rfl) (by kernel_rfl) (fun _ _ _ h => h) (Or.inl ⟨by rfl, ?_⟩) trivial ?_
            rotate_left
            · intro w hSw
              clear hSw
              go_simp
              all_goals (with_reducible rfl)
            try simp only [Act.put, List.setIfInBounds_toArray, List.set_cons_zero, List.set_cons_succ]
            refine wpAnyT_take (i := 17) (oi := { dst := some 42, op := Go.Op.binOp Go.BinOp.eql 25 (Go.Operand.tmp 41) (Go.Operand.const (Go.Value.int Go.IntKind.i64 0)) 25, type := 4, pos := "law.go:227", after := #[{ on := 16, ground := Go.Ground.data }, { on := 15, ground := Go.Ground.guard }], guard := some (15, true) }) (v := ?_) rfl (by kernel_rfl) (by kernel_rfl) (by kernel_rfl) (by kernel_rfl) (fun _ _ _ h => h) (Or.inl ⟨by rfl, ?_⟩) trivial ?_
            rotate_left
            · intro w hSw
              clear hSw
              go_simp
              all_goals (with_reducible rfl)
            try simp only [Act.put, List.setIfInBounds_toArray, List.set_cons_zero, List.set_cons_succ]
            refine wpAnyT_take (i := 18) (oi := { dst := some 43, op := Go.Op.move (Go.Operand.tmp 5), type := 3, pos := "law.go:227", after := #[{ on := 15, ground := Go.Ground.guard }], guard := some (15, true) }) (v := ?_) rfl (by kernel_rfl) (by kernel_rfl) (by kernel_rfl) (by kernel_rfl) (fun _ _ _ h => h) (Or.inl ⟨by rfl, ?_⟩) trivial ?_
            rotate_left
            · intro w hSw
              clear hSw
              go_simp
              all_goals (with_reducible rfl)
            try simp only [Act.put, List.setIfInBounds_toArray, List.set_cons_zero, List.set_cons_succ]
            refine wpAnyT_take (i := 19) (oi := { dst := some 44, op := Go.Op.binOp Go.BinOp.add 3 (Go.Operand.tmp 43) (Go.Operand.const (Go.Value.int Go.IntKind.i64 2)) 3, type := 3, pos := "law.go:227", after := #[{ on := 18, ground := Go.Ground.data }, { on := 15, ground := Go.Ground.guard }], guard := some (15, true) }) (v := ?_) rfl (by kernel_rfl) (by kernel_rfl) (by kernel_rfl) (by kernel_rfl) (fun _ _ _ h => h) (Or.inl ⟨by rfl, ?_⟩) trivial ?_
            rotate_left
            · intro w hSw
              clear hSw
              go_simp
              all_goals (with_reducible rfl)
            try simp only [Act.put, List.setIfInBounds_toArray, List.set_cons_zero, List.set_cons_succ]
            refine wpAnyT_take (i := 20) (oi := { dst := some 45, op := Go.Op.binOp Go.BinOp.leq 3 (Go.Operand.tmp 44) (Go.Operand.const (Go.Value.int Go.IntKind.i64 400)) 3, type := 4, pos := "law.go:227", after := #[{ on := 19, ground := Go.Ground.data }, { on := 15, ground := Go.Ground.guard }], guard := some (15, true) }) (v := ?_) rfl (by kernel_rfl) (by kernel_rfl) (by kernel_rfl) (by kernel_rfl) (fun _ _ _ h => h) (Or.inl ⟨by rfl, ?_⟩) trivial ?_
            rotate_left
            · intro w hSw
              clear hSw
              go_simp
              all_goals (with_reducible rfl)
            try simp only [Act.put, List.setIfInBounds_toArray, List.set_cons_zero, List.set_cons_succ]
            refine wpAnyT_take (i := 21) (oi := { dst := some 46, op := Go.Op.binOp Go.BinOp.eql 4 (Go.Operand.tmp 42) (Go.Operand.tmp 45) 4, type := 4, pos := "law.go:227", after := #[{ on := 17, ground := Go.Ground.data }, { on := 20, ground := Go.Ground.data }, { on := 15, ground := Go.Ground.guard }], guard := some (15, true) }) (v := ?_) rfl (by kernel_rfl) (by kernel_rfl) (by kernel_rfl) (by kernel_rfl) (fun _ _ _ h => h) (Or.inl ⟨by rfl, ?_⟩) trivial ?_
            rotate_left
            · intro w hSw
              clear hSw
              go_simp
              all_goals (with_reducible rfl)
            try simp only [Act.put, List.setIfInBounds_toArray, List.set_cons_zero, List.set_cons_succ]
            refine wpAnyT_take (i := 22) (oi := { dst := some 47, op := Go.Op.pick (Go.Operand.tmp 40) (Go.Operand.tmp 46) (Go.Operand.const (Go.Value.bool false)), type := 4, pos := "law.go:227", after := #[{ on := 15, ground := Go.Ground.data }, { on := 21, ground := Go.Ground.data }], guard := none }) (v := ?_) rfl (by kernel_rfl) (by kernel_rfl) (by kernel_rfl) (by kernel_rfl) (fun _ _ _ h => h) (Or.inl ⟨by rfl, ?_⟩) trivial ?_
            rotate_left
            · intro w hSw
              clear hSw
              go_simp
              all_goals (with_reducible rfl)
            try simp only [Act.put, List.setIfInBounds_toArray, List.set_cons_zero, List.set_cons_succ]
            refine wpAnyT_take (i := 23) (oi := { dst := some 2, op := Go.Op.assign (Go.Operand.tmp 47), type := 4, pos := "law.go:227", after := #[{ on := 22, ground := Go.Ground.data }, { on := 15, ground := Go.Ground.chain }, { on := 0, ground := Go.Ground.phase }, { on := 1, ground := Go.Ground.phase }, { on := 2, ground := Go.Ground.phase }, { on := 3, ground := Go.Ground.phase }, { on := 4, ground := Go.Ground.phase }, { on := 5, ground := Go.Ground.phase }, { on := 6, ground := Go.Ground.phase }, { on := 7, ground := Go.Ground.phase }, { on := 8, ground := Go.Ground.phase }, { on := 9, ground := Go.Ground.phase }, { on := 10, ground := Go.Ground.phase }, { on := 11, ground := Go.Ground.phase }, { on := 12, ground := Go.Ground.phase }, { on := 13, ground := Go.Ground.phase }, { on := 14, ground := Go.Ground.phase }, { on := 15, ground := Go.Ground.phase }, { on := 16, ground := Go.Ground.phase }, { on := 17, ground := Go.Ground.phase }, { on := 18, ground := Go.Ground.phase }, { on := 19, ground := Go.Ground.phase }, { on := 20, ground := Go.Ground.phase }, { on := 21, ground := Go.Ground.phase }, { on := 22, ground := Go.Ground.phase }], guard := none }) (v := ?_) rfl (by kernel_rfl) (by kernel_rfl) (by kernel_rfl) (by kernel_rfl) (fun _ _ _ h => h) (Or.inl ⟨by rfl, ?_⟩) trivial ?_
            rotate_left
            · intro w hSw
              clear hSw
              go_simp
              all_goals (with_reducible rfl)
            try simp only [Act.put, List.setIfInBounds_toArray, List.set_cons_zero, List.set_cons_succ]
            refine wpAnyT_done (by kernel_rfl) ?_ _
            go_wp2_with fail
            go_ret
            exact ⟨rfl, Z2.out.dn⟩
          · refine step_insert (H := Unit) (by rfl) _ _ _ 53 (by rfl) 4 3 (bool_keyed Tryd.underlying4) Tryd.underlying53 (plainElem Tryd.prog 3) _ _ _ (by rfl) Z2.out.map (by unfold maxLen; decide) _ _ (.bool false) (by rfl) (by rfl) (keyOf_bool_mk Tryd.underlying4 false) (.lit (.int .i64 0)) [] (plainElem_int Tryd.underlying3 (by decide)) ?_
            intro w9 hm9 hg9
            have Z2 := Lib.hid (Z2.out.ins hm9 hg9)
            clear hm9 hg9
            refine hK.out _ _ trivial (fun hHeld => ?_)
            clear hHeld hK K
            try simp only [Act.put]
            refine wpAnyT_one (i := 6) (o := { dst := none, op := Go.Op.insert 53 (Go.Operand.tmp 32) (Go.Operand.const (Go.Value.bool true)) (Go.Operand.const (Go.Value.int Go.IntKind.i64 2)), type := 0, pos := "law.go:227", after := #[{ on := 5, ground := Go.Ground.data }], guard := none }) (by kernel_rfl) rfl (fun K hK => ?_)
            refine step_insert (H := Unit) (by rfl) _ _ _ 53 (by rfl) 4 3 (bool_keyed Tryd.underlying4) Tryd.underlying53 (plainElem Tryd.prog 3) _ _ _ (by rfl) Z2.out.map (by unfold maxLen; decide) _ _ (.bool true) (by rfl) (by rfl) (keyOf_bool_mk Tryd.underlying4 true) (.lit (.int .i64 2)) [] (plainElem_int Tryd.underlying3 (by decide)) ?_
            intro w9 hm9 hg9
            have Z2 := Lib.hid (Z2.out.ins hm9 hg9)
            clear hm9 hg9
            refine hK.out _ _ trivial (fun hHeld => ?_)
            clear hHeld hK K
            try simp only [Act.put]
            refine wpAnyT_take (i := 8) (oi := { dst := some 33, op := Go.Op.move (Go.Operand.tmp 32), type := 53, pos := "law.go:227", after := #[{ on := 5, ground := Go.Ground.data }, { on := 6, ground := Go.Ground.data }, { on := 7, ground := Go.Ground.data }], guard := none }) (v := ?_) rfl (by kernel_rfl) (by kernel_rfl) (by kernel_rfl) (by kernel_rfl) (fun _ _ _ h => h) (Or.inl ⟨by rfl, ?_⟩) trivial ?_
            rotate_left
            · intro w hSw
              clear hSw
              go_simp
              all_goals (with_reducible rfl)
            try simp only [Act.put, List.setIfInBounds_toArray, List.set_cons_zero, List.set_cons_succ]
            refine wpAnyT_one (i := 12) (o := { dst := some 37, op := Go.Op.lookup 53 (Go.Operand.tmp 33) (Go.Operand.tmp 36) false, type := 3, pos := "law.go:227", after := #[{ on := 8, ground := Go.Ground.data }, { on := 11, ground := Go.Ground.data }], guard := none }) (by kernel_rfl) rfl (fun K hK => ?_)
            refine step_lookup (H := Unit) (by rfl) _ _ 53 (by rfl) 4 3 .i64 (bool_keyed Tryd.underlying4) Tryd.underlying53 Tryd.underlying3 (Tryd.zeroValue3 _) _ _ _ (by rfl) Z2.out.map _ (.bool false) (by rfl) (keyOf_bool_mk Tryd.underlying4 false) 0 (by rfl) ?_
            refine hK.out _ _ trivial (fun hHeld => ?_)
            clear hHeld hK K
            try simp only [Act.put, List.setIfInBounds_toArray, List.set_cons_zero, List.set_cons_succ]
            refine wpAnyT_take (i := 13) (oi := { dst := some 38, op := Go.Op.binOp Go.BinOp.add 3 (Go.Operand.tmp 31) (Go.Operand.tmp 37) 3, type := 3, pos := "law.go:227", after := #[{ on := 4, ground := Go.Ground.data }, { on := 12, ground := Go.Ground.data }], guard := none }) (v := ?_) rfl (by kernel_rfl) (by kernel_rfl) (by kernel_rfl) (by kernel_rfl) (fun _ _ _ h => h) (Or.inl ⟨by rfl, ?_⟩) trivial ?_
            rotate_left
            · intro w hSw
              clear hSw
              go_simp
              all_goals (with_reducible rfl)
            try simp only [Act.put, List.setIfInBounds_toArray, List.set_cons_zero, List.set_cons_succ]
            try simp only [hw]
            try simp only [hw3]
            try simp only [hw2]
            refine wpAnyT_take (i := 14) (oi := { dst := some 39, op := Go.Op.binOp Go.BinOp.eql 3 (Go.Operand.tmp 29) (Go.Operand.tmp 38) 3, type := 4, pos := "law.go:227", after := #[{ on := 2, ground := Go.Ground.data }, { on := 13, ground := Go.Ground.data }], guard := none }) (v := ?_) rfl (by kernel_rfl) (by kernel_rfl) (by kernel_rfl) (by kernel_rfl) (fun _ _ _ h => h) (Or.inl ⟨by rfl, ?_⟩) trivial ?_
            rotate_left
            · intro w hSw
              clear hSw
              go_simp
              all_goals (with_reducible rfl)
            try simp only [Act.put, List.setIfInBounds_toArray, List.set_cons_zero, List.set_cons_succ]
            try simp only [he]
            refine wpAnyT_take (i := 15) (oi := { dst := some 40, op := Go.Op.move (Go.Operand.tmp 39), type := 4, pos := "law.go:227", after := #[{ on := 14, ground := Go.Ground.data }, { on := 1, ground := Go.Ground.chain }], guard := none }) (v := ?_) rfl (by kernel_rfl) (by kernel_rfl) (by kernel_rfl) (by kernel_rfl) (fun _ _ _ h => h) (Or.inl ⟨by rfl, ?_⟩) trivial ?_
            rotate_left
            · intro w hSw
              clear hSw
              go_simp
              all_goals (with_reducible rfl)
            try simp only [Act.put, List.setIfInBounds_toArray, List.set_cons_zero, List.set_cons_succ]
            refine wpAnyT_take (i := 16) (oi := { dst := some 41, op := Go.Op.move (Go.Operand.tmp 6), type := 25, pos := "law.go:227", after := #[{ on := 15, ground := Go.Ground.guard }], guard := some (15, true) }) (v := ?_) rfl (by kernel_rfl) (by kernel_rfl) (by kernel_rfl) (by kernel_rfl) (fun _ _ _ h => h) (Or.inl ⟨by rfl, ?_⟩) trivial ?_
            rotate_left
            · intro w hSw
              clear hSw
              go_simp
              all_goals (with_reducible rfl)
            try simp only [Act.put, List.setIfInBounds_toArray, List.set_cons_zero, List.set_cons_succ]
            refine wpAnyT_take (i := 17) (oi := { dst := some 42, op := Go.Op.binOp Go.BinOp.eql 25 (Go.Operand.tmp 41) (Go.Operand.const (Go.Value.int Go.IntKind.i64 0)) 25, type := 4, pos := "law.go:227", after := #[{ on := 16, ground := Go.Ground.data }, { on := 15, ground := Go.Ground.guard }], guard := some (15, true) }) (v := ?_) rfl (by kernel_rfl) (by kernel_rfl) (by kernel_rfl) (by kernel_rfl) (fun _ _ _ h => h) (Or.inl ⟨by rfl, ?_⟩) trivial ?_
            rotate_left
            · intro w hSw
              clear hSw
              go_simp
              all_goals (with_reducible rfl)
            try simp only [Act.put, List.setIfInBounds_toArray, List.set_cons_zero, List.set_cons_succ]
            refine wpAnyT_take (i := 18) (oi := { dst := some 43, op := Go.Op.move (Go.Operand.tmp 5), type := 3, pos := "law.go:227", after := #[{ on := 15, ground := Go.Ground.guard }], guard := some (15, true) }) (v := ?_) rfl (by kernel_rfl) (by kernel_rfl) (by kernel_rfl) (by kernel_rfl) (fun _ _ _ h => h) (Or.inl ⟨by rfl, ?_⟩) trivial ?_
            rotate_left
            · intro w hSw
              clear hSw
              go_simp
              all_goals (with_reducible rfl)
            try simp only [Act.put, List.setIfInBounds_toArray, List.set_cons_zero, List.set_cons_succ]
            refine wpAnyT_take (i := 19) (oi := { dst := some 44, op := Go.Op.binOp Go.BinOp.add 3 (Go.Operand.tmp 43) (Go.Operand.const (Go.Value.int Go.IntKind.i64 2)) 3, type := 3, pos := "law.go:227", after := #[{ on := 18, ground := Go.Ground.data }, { on := 15, ground := Go.Ground.guard }], guard := some (15, true) }) (v := ?_) rfl (by kernel_rfl) (by kernel_rfl) (by kernel_rfl) (by kernel_rfl) (fun _ _ _ h => h) (Or.inl ⟨by rfl, ?_⟩) trivial ?_
            rotate_left
            · intro w hSw
              clear hSw
              go_simp
              all_goals (with_reducible rfl)
            try simp only [Act.put, List.setIfInBounds_toArray, List.set_cons_zero, List.set_cons_succ]
            refine wpAnyT_take (i := 20) (oi := { dst := some 45, op := Go.Op.binOp Go.BinOp.leq 3 (Go.Operand.tmp 44) (Go.Operand.const (Go.Value.int Go.IntKind.i64 400)) 3, type := 4, pos := "law.go:227", after := #[{ on := 19, ground := Go.Ground.data }, { on := 15, ground := Go.Ground.guard }], guard := some (15, true) }) (v := ?_) rfl (by kernel_rfl) (by kernel_rfl) (by kernel_rfl) (by kernel_rfl) (fun _ _ _ h => h) (Or.inl ⟨by rfl, ?_⟩) trivial ?_
            rotate_left
            · intro w hSw
              clear hSw
              go_simp
              all_goals (with_reducible rfl)
            try simp only [Act.put, List.setIfInBounds_toArray, List.set_cons_zero, List.set_cons_succ]
            refine wpAnyT_take (i := 21) (oi := { dst := some 46, op := Go.Op.binOp Go.BinOp.eql 4 (Go.Operand.tmp 42) (Go.Operand.tmp 45) 4, type := 4, pos := "law.go:227", after := #[{ on := 17, ground := Go.Ground.data }, { on := 20, ground := Go.Ground.data }, { on := 15, ground := Go.Ground.guard }], guard := some (15, true) }) (v := ?_) rfl (by kernel_rfl) (by kernel_rfl) (by kernel_rfl) (by kernel_rfl) (fun _ _ _ h => h) (Or.inl ⟨by rfl, ?_⟩) trivial ?_
            rotate_left
            · intro w hSw
              clear hSw
              go_simp
              all_goals (with_reducible rfl)
            try simp only [Act.put, List.setIfInBounds_toArray, List.set_cons_zero, List.set_cons_succ]
            refine wpAnyT_take (i := 22) (oi := { dst := some 47, op := Go.Op.pick (Go.Operand.tmp 40) (Go.Operand.tmp 46) (Go.Operand.const (Go.Value.bool false)), type := 4, pos := "law.go:227", after := #[{ on := 15, ground := Go.Ground.data }, { on := 21, ground := Go.Ground.data }], guard := none }) (v := ?_) rfl (by kernel_rfl) (by kernel_rfl) (by kernel_rfl) (by kernel_rfl) (fun _ _ _ h => h) (Or.inl ⟨by rfl, ?_⟩) trivial ?_
            rotate_left
            · intro w hSw
              clear hSw
              go_simp
              all_goals (with_reducible rfl)
            try simp only [Act.put, List.setIfInBounds_toArray, List.set_cons_zero, List.set_cons_succ]
            refine wpAnyT_take (i := 23) (oi := { dst := some 2, op := Go.Op.assign (Go.Operand.tmp 47), type := 4, pos := "law.go:227", after := #[{ on := 22, ground := Go.Ground.data }, { on := 15, ground := Go.Ground.chain }, { on := 0, ground := Go.Ground.phase }, { on := 1, ground := Go.Ground.phase }, { on := 2, ground := Go.Ground.phase }, { on := 3, ground := Go.Ground.phase }, { on := 4, ground := Go.Ground.phase }, { on := 5, ground := Go.Ground.phase }, { on := 6, ground := Go.Ground.phase }, { on := 7, ground := Go.Ground.phase }, { on := 8, ground := Go.Ground.phase }, { on := 9, ground := Go.Ground.phase }, { on := 10, ground := Go.Ground.phase }, { on := 11, ground := Go.Ground.phase }, { on := 12, ground := Go.Ground.phase }, { on := 13, ground := Go.Ground.phase }, { on := 14, ground := Go.Ground.phase }, { on := 15, ground := Go.Ground.phase }, { on := 16, ground := Go.Ground.phase }, { on := 17, ground := Go.Ground.phase }, { on := 18, ground := Go.Ground.phase }, { on := 19, ground := Go.Ground.phase }, { on := 20, ground := Go.Ground.phase }, { on := 21, ground := Go.Ground.phase }, { on := 22, ground := Go.Ground.phase }], guard := none }) (v := ?_) rfl (by kernel_rfl) (by kernel_rfl) (by kernel_rfl) (by kernel_rfl) (fun _ _ _ h => h) (Or.inl ⟨by rfl, ?_⟩) trivial ?_
            rotate_left
            · intro w hSw
              clear hSw
              go_simp
              all_goals (with_reducible rfl)
            try simp only [Act.put, List.setIfInBounds_toArray, List.set_cons_zero, List.set_cons_succ]
            refine wpAnyT_done (by kernel_rfl) ?_ _
            go_wp2_with fail
            go_ret
            exact ⟨rfl, Z2.out.dn⟩
        · refine step_makeMap (by rfl) 53 (by rfl) ?_
          have Z2 := Lib.hid (li_make A2.out)
          refine hK.out _ _ trivial (fun hHeld => ?_)
          clear hHeld hK K
          try simp only [Act.put, List.setIfInBounds_toArray, List.set_cons_zero, List.set_cons_succ]
          refine wpAnyT_three (i := 1) (j := 6) (l := 7) (oi := { dst := some 28, op := Go.Op.call { callee := Go.Callee.value (Go.Operand.func 39), args := #[Go.Operand.tmp 27], argTypes := #[48] }, type := 51, pos := "law.go:227", after := #[{ on := 0, ground := Go.Ground.data }], guard := none }) (oj := { dst := none, op := Go.Op.insert 53 (Go.Operand.tmp 32) (Go.Operand.const (Go.Value.bool true)) (Go.Operand.const (Go.Value.int Go.IntKind.i64 2)), type := 0, pos := "law.go:227", after := #[{ on := 5, ground := Go.Ground.data }], guard := none }) (ol := { dst := none, op := Go.Op.insert 53 (Go.Operand.tmp 32) (Go.Operand.const (Go.Value.bool false)) (Go.Operand.const (Go.Value.int Go.IntKind.i64 0)), type := 0, pos := "law.go:227", after := #[{ on := 5, ground := Go.Ground.data }], guard := none }) (by kernel_rfl) rfl rfl rfl (fun K hK => ?_) (fun K hK => ?_) (fun K hK => ?_)
          · go_simp
            go_at_call 39
            refine (LiAt.opens Z2.out hS').mono ?_
            rintro e w8 ⟨a8, c8, rfl, hA8⟩
            have Z2 := Lib.hid hA8
            clear hA8
            go_wp2_with fail
            refine hK.out _ _ trivial (fun hHeld => ?_)
            clear hHeld hK K
            try simp only [Act.put, List.setIfInBounds_toArray, List.set_cons_zero, List.set_cons_succ]
            refine wpAnyT_take (i := 2) (oi := { dst := some 29, op := Go.Op.call { callee := Go.Callee.builtin Go.Builtin.len, args := #[Go.Operand.tmp 28], argTypes := #[51] }, type := 3, pos := "law.go:227", after := #[{ on := 1, ground := Go.Ground.data }], guard := none }) (v := ?_) rfl (by kernel_rfl) (by kernel_rfl) (by kernel_rfl) (by kernel_rfl) (fun _ _ _ h => h) (Or.inl ⟨by rfl, ?_⟩) trivial ?_
            rotate_left
            · intro w hSw
              clear hSw
              go_simp
              all_goals (with_reducible rfl)
            try simp only [Act.put, List.setIfInBounds_toArray, List.set_cons_zero, List.set_cons_succ]
            refine wpAnyT_two (i := 6) (j := 7) (oi := { dst := none, op := Go.Op.insert 53 (Go.Operand.tmp 32) (Go.Operand.const (Go.Value.bool true)) (Go.Operand.const (Go.Value.int Go.IntKind.i64 2)), type := 0, pos := "law.go:227", after := #[{ on := 5, ground := Go.Ground.data }], guard := none }) (oj := { dst := none, op := Go.Op.insert 53 (Go.Operand.tmp 32) (Go.Operand.const (Go.Value.bool false)) (Go.Operand.const (Go.Value.int Go.IntKind.i64 0)), type := 0, pos := "law.go:227", after := #[{ on := 5, ground := Go.Ground.data }], guard := none }) (by kernel_rfl) rfl rfl (fun K hK => ?_) (fun K hK => ?_)
            · refine step_insert (H := Unit) (by rfl) _ _ _ 53 (by rfl) 4 3 (bool_keyed Tryd.underlying4) Tryd.underlying53 (plainElem Tryd.prog 3) _ _ _ (by rfl) Z2.out.map (by unfold maxLen; decide) _ _ (.bool true) (by rfl) (by rfl) (keyOf_bool_mk Tryd.underlying4 true) (.lit (.int .i64 2)) [] (plainElem_int Tryd.underlying3 (by decide)) ?_
              intro w9 hm9 hg9
              have Z2 := Lib.hid (Z2.out.ins hm9 hg9)
              clear hm9 hg9
              refine hK.out _ _ trivial (fun hHeld => ?_)
              clear hHeld hK K
              try simp only [Act.put]
              refine wpAnyT_one (i := 7) (o := { dst := none, op := Go.Op.insert 53 (Go.Operand.tmp 32) (Go.Operand.const (Go.Value.bool false)) (Go.Operand.const (Go.Value.int Go.IntKind.i64 0)), type := 0, pos := "law.go:227", after := #[{ on := 5, ground := Go.Ground.data }], guard := none }) (by kernel_rfl) rfl (fun K hK => ?_)
              refine step_insert (H := Unit) (by rfl) _ _ _ 53 (by rfl) 4 3 (bool_keyed Tryd.underlying4) Tryd.underlying53 (plainElem Tryd.prog 3) _ _ _ (by rfl) Z2.out.map (by unfold maxLen; decide) _ _ (.bool false) (by rfl) (by rfl) (keyOf_bool_mk Tryd.underlying4 false) (.lit (.int .i64 0)) [] (plainElem_int Tryd.underlying3 (by decide)) ?_
              intro w9 hm9 hg9
              have Z2 := Lib.hid (Z2.out.ins hm9 hg9)
              clear hm9 hg9
              refine hK.out _ _ trivial (fun hHeld => ?_)
              clear hHeld hK K
              try simp only [Act.put]
              refine wpAnyT_take (i := 8) (oi := { dst := some 33, op := Go.Op.move (Go.Operand.tmp 32), type := 53, pos := "law.go:227", after := #[{ on := 5, ground := Go.Ground.data }, { on := 6, ground := Go.Ground.data }, { on := 7, ground := Go.Ground.data }], guard := none }) (v := ?_) rfl (by kernel_rfl) (by kernel_rfl) (by kernel_rfl) (by kernel_rfl) (fun _ _ _ h => h) (Or.inl ⟨by rfl, ?_⟩) trivial ?_
              rotate_left
              · intro w hSw
                clear hSw
                go_simp
                all_goals (with_reducible rfl)
              try simp only [Act.put, List.setIfInBounds_toArray, List.set_cons_zero, List.set_cons_succ]
              refine wpAnyT_one (i := 12) (o := { dst := some 37, op := Go.Op.lookup 53 (Go.Operand.tmp 33) (Go.Operand.tmp 36) false, type := 3, pos := "law.go:227", after := #[{ on := 8, ground := Go.Ground.data }, { on := 11, ground := Go.Ground.data }], guard := none }) (by kernel_rfl) rfl (fun K hK => ?_)
              refine step_lookup (H := Unit) (by rfl) _ _ 53 (by rfl) 4 3 .i64 (bool_keyed Tryd.underlying4) Tryd.underlying53 Tryd.underlying3 (Tryd.zeroValue3 _) _ _ _ (by rfl) Z2.out.map _ (.bool false) (by rfl) (keyOf_bool_mk Tryd.underlying4 false) 0 (by rfl) ?_
              refine hK.out _ _ trivial (fun hHeld => ?_)
              clear hHeld hK K
              try simp only [Act.put, List.setIfInBounds_toArray, List.set_cons_zero, List.set_cons_succ]
              refine wpAnyT_take (i := 13) (oi := { dst := some 38, op := Go.Op.binOp Go.BinOp.add 3 (Go.Operand.tmp 31) (Go.Operand.tmp 37) 3, type := 3, pos := "law.go:227", after := #[{ on := 4, ground := Go.Ground.data }, { on := 12, ground := Go.Ground.data }], guard := none }) (v := ?_) rfl (by kernel_rfl) (by kernel_rfl) (by kernel_rfl) (by kernel_rfl) (fun _ _ _ h => h) (Or.inl ⟨by rfl, ?_⟩) trivial ?_
              rotate_left
              · intro w hSw
                clear hSw
                go_simp
                all_goals (with_reducible rfl)
              try simp only [Act.put, List.setIfInBounds_toArray, List.set_cons_zero, List.set_cons_succ]
              try simp only [hw]
              try simp only [hw3]
              try simp only [hw2]
              refine wpAnyT_take (i := 14) (oi := { dst := some 39, op := Go.Op.binOp Go.BinOp.eql 3 (Go.Operand.tmp 29) (Go.Operand.tmp 38) 3, type := 4, pos := "law.go:227", after := #[{ on := 2, ground := Go.Ground.data }, { on := 13, ground := Go.Ground.data }], guard := none }) (v := ?_) rfl (by kernel_rfl) (by kernel_rfl) (by kernel_rfl) (by kernel_rfl) (fun _ _ _ h => h) (Or.inl ⟨by rfl, ?_⟩) trivial ?_
              rotate_left
              · intro w hSw
                clear hSw
                go_simp
                all_goals (with_reducible rfl)
              try simp only [Act.put, List.setIfInBounds_toArray, List.set_cons_zero, List.set_cons_succ]
              try simp only [he]
              refine wpAnyT_take (i := 15) (oi := { dst := some 40, op := Go.Op.move (Go.Operand.tmp 39), type := 4, pos := "law.go:227", after := #[{ on := 14, ground := Go.Ground.data }, { on := 1, ground := Go.Ground.chain }], guard := none }) (v := ?_) rfl (by kernel_rfl) (by kernel_rfl) (by kernel_rfl) (by kernel_rfl) (fun _ _ _ h => h) (Or.inl ⟨by rfl, ?_⟩) trivial ?_
              rotate_left
              · intro w hSw
                clear hSw
                go_simp
                all_goals (with_reducible rfl)
              try simp only [Act.put, List.setIfInBounds_toArray, List.set_cons_zero, List.set_cons_succ]
              refine wpAnyT_take (i := 16) (oi := { dst := some 41, op := Go.Op.move (Go.Operand.tmp 6), type := 25, pos := "law.go:227", after := #[{ on := 15, ground := Go.Ground.guard }], guard := some (15, true) }) (v := ?_) rfl (by kernel_rfl) (by kernel_rfl) (by kernel_rfl) (by kernel_rfl) (fun _ _ _ h => h) (Or.inl ⟨by rfl, ?_⟩) trivial ?_
              rotate_left
              · intro w hSw
                clear hSw
                go_simp
                all_goals (with_reducible rfl)
              try simp only [Act.put, List.setIfInBounds_toArray, List.set_cons_zero, List.set_cons_succ]
              refine wpAnyT_take (i := 17) (oi := { dst := some 42, op := Go.Op.binOp Go.BinOp.eql 25 (Go.Operand.tmp 41) (Go.Operand.const (Go.Value.int Go.IntKind.i64 0)) 25, type := 4, pos := "law.go:227", after := #[{ on := 16, ground := Go.Ground.data }, { on := 15, ground := Go.Ground.guard }], guard := some (15, true) }) (v := ?_) rfl (by kernel_rfl) (by kernel_rfl) (by kernel_rfl) (by kernel_rfl) (fun _ _ _ h => h) (Or.inl ⟨by rfl, ?_⟩) trivial ?_
              rotate_left
              · intro w hSw
                clear hSw
                go_simp
                all_goals (with_reducible rfl)
              try simp only [Act.put, List.setIfInBounds_toArray, List.set_cons_zero, List.set_cons_succ]
              refine wpAnyT_take (i := 18) (oi := { dst := some 43, op := Go.Op.move (Go.Operand.tmp 5), type := 3, pos := "law.go:227", after := #[{ on := 15, ground := Go.Ground.guard }], guard := some (15, true) }) (v := ?_) rfl (by kernel_rfl) (by kernel_rfl) (by kernel_rfl) (by kernel_rfl) (fun _ _ _ h => h) (Or.inl ⟨by rfl, ?_⟩) trivial ?_
              rotate_left
              · intro w hSw
                clear hSw
                go_simp
                all_goals (with_reducible rfl)
              try simp only [Act.put, List.setIfInBounds_toArray, List.set_cons_zero, List.set_cons_succ]
              refine wpAnyT_take (i := 19) (oi := { dst := some 44, op := Go.Op.binOp Go.BinOp.add 3 (Go.Operand.tmp 43) (Go.Operand.const (Go.Value.int Go.IntKind.i64 2)) 3, type := 3, pos := "law.go:227", after := #[{ on := 18, ground := Go.Ground.data }, { on := 15, ground := Go.Ground.guard }], guard := some (15, true) }) (v := ?_) rfl (by kernel_rfl) (by kernel_rfl) (by kernel_rfl) (by kernel_rfl) (fun _ _ _ h => h) (Or.inl ⟨by rfl, ?_⟩) trivial ?_
              rotate_left
              · intro w hSw
                clear hSw
                go_simp
                all_goals (with_reducible rfl)
              try simp only [Act.put, List.setIfInBounds_toArray, List.set_cons_zero, List.set_cons_succ]
              refine wpAnyT_take (i := 20) (oi := { dst := some 45, op := Go.Op.binOp Go.BinOp.leq 3 (Go.Operand.tmp 44) (Go.Operand.const (Go.Value.int Go.IntKind.i64 400)) 3, type := 4, pos := "law.go:227", after := #[{ on := 19, ground := Go.Ground.data }, { on := 15, ground := Go.Ground.guard }], guard := some (15, true) }) (v := ?_) rfl (by kernel_rfl) (by kernel_rfl) (by kernel_rfl) (by kernel_rfl) (fun _ _ _ h => h) (Or.inl ⟨by rfl, ?_⟩) trivial ?_
              rotate_left
              · intro w hSw
                clear hSw
                go_simp
                all_goals (with_reducible rfl)
              try simp only [Act.put, List.setIfInBounds_toArray, List.set_cons_zero, List.set_cons_succ]
              refine wpAnyT_take (i := 21) (oi := { dst := some 46, op := Go.Op.binOp Go.BinOp.eql 4 (Go.Operand.tmp 42) (Go.Operand.tmp 45) 4, type := 4, pos := "law.go:227", after := #[{ on := 17, ground := Go.Ground.data }, { on := 20, ground := Go.Ground.data }, { on := 15, ground := Go.Ground.guard }], guard := some (15, true) }) (v := ?_) rfl (by kernel_rfl) (by kernel_rfl) (by kernel_rfl) (by kernel_rfl) (fun _ _ _ h => h) (Or.inl ⟨by rfl, ?_⟩) trivial ?_
              rotate_left
              · intro w hSw
                clear hSw
                go_simp
                all_goals (with_reducible rfl)
              try simp only [Act.put, List.setIfInBounds_toArray, List.set_cons_zero, List.set_cons_succ]
              refine wpAnyT_take (i := 22) (oi := { dst := some 47, op := Go.Op.pick (Go.Operand.tmp 40) (Go.Operand.tmp 46) (Go.Operand.const (Go.Value.bool false)), type := 4, pos := "law.go:227", after := #[{ on := 15, ground := Go.Ground.data }, { on := 21, ground := Go.Ground.data }], guard := none }) (v := ?_) rfl (by kernel_rfl) (by kernel_rfl) (by kernel_rfl) (by kernel_rfl) (fun _ _ _ h => h) (Or.inl ⟨by rfl, ?_⟩) trivial ?_
              rotate_left
              · intro w hSw
                clear hSw
                go_simp
                all_goals (with_reducible rfl)
              try simp only [Act.put, List.setIfInBounds_toArray, List.set_cons_zero, List.set_cons_succ]
              refine wpAnyT_take (i := 23) (oi := { dst := some 2, op := Go.Op.assign (Go.Operand.tmp 47), type := 4, pos := "law.go:227", after := #[{ on := 22, ground := Go.Ground.data }, { on := 15, ground := Go.Ground.chain }, { on := 0, ground := Go.Ground.phase }, { on := 1, ground := Go.Ground.phase }, { on := 2, ground := Go.Ground.phase }, { on := 3, ground := Go.Ground.phase }, { on := 4, ground := Go.Ground.phase }, { on := 5, ground := Go.Ground.phase }, { on := 6, ground := Go.Ground.phase }, { on := 7, ground := Go.Ground.phase }, { on := 8, ground := Go.Ground.phase }, { on := 9, ground := Go.Ground.phase }, { on := 10, ground := Go.Ground.phase }, { on := 11, ground := Go.Ground.phase }, { on := 12, ground := Go.Ground.phase }, { on := 13, ground := Go.Ground.phase }, { on := 14, ground := Go.Ground.phase }, { on := 15, ground := Go.Ground.phase }, { on := 16, ground := Go.Ground.phase }, { on := 17, ground := Go.Ground.phase }, { on := 18, ground := Go.Ground.phase }, { on := 19, ground := Go.Ground.phase }, { on := 20, ground := Go.Ground.phase }, { on := 21, ground := Go.Ground.phase }, { on := 22, ground := Go.Ground.phase }], guard := none }) (v := ?_) rfl (by kernel_rfl) (by kernel_rfl) (by kernel_rfl) (by kernel_rfl) (fun _ _ _ h => h) (Or.inl ⟨by rfl, ?_⟩) trivial ?_
              rotate_left
              · intro w hSw
                clear hSw
                go_simp
                all_goals (with_reducible rfl)
              try simp only [Act.put, List.setIfInBounds_toArray, List.set_cons_zero, List.set_cons_succ]
              refine wpAnyT_done (by kernel_rfl) ?_ _
              go_wp2_with fail
              go_ret
              exact ⟨rfl, Z2.out.dn⟩
            · refine step_insert (H := Unit) (by rfl) _ _ _ 53 (by rfl) 4 3 (bool_keyed Tryd.underlying4) Tryd.underlying53 (plainElem Tryd.prog 3) _ _ _ (by rfl) Z2.out.map (by unfold maxLen; decide) _ _ (.bool false) (by rfl) (by rfl) (keyOf_bool_mk Tryd.underlying4 false) (.lit (.int .i64 0)) [] (plainElem_int Tryd.underlying3 (by decide)) ?_
              intro w9 hm9 hg9
              have Z2 := Lib.hid (Z2.out.ins hm9 hg9)
              clear hm9 hg9
              refine hK.out _ _ trivial (fun hHeld => ?_)
              clear hHeld hK K
              try simp only [Act.put]
              refine wpAnyT_one (i := 6) (o := { dst := none, op := Go.Op.insert 53 (Go.Operand.tmp 32) (Go.Operand.const (Go.Value.bool true)) (Go.Operand.const (Go.Value.int Go.IntKind.i64 2)), type := 0, pos := "law.go:227", after := #[{ on := 5, ground := Go.Ground.data }], guard := none }) (by kernel_rfl) rfl (fun K hK => ?_)
              refine step_insert (H := Unit) (by rfl) _ _ _ 53 (by rfl) 4 3 (bool_keyed Tryd.underlying4) Tryd.underlying53 (plainElem Tryd.prog 3) _ _ _ (by rfl) Z2.out.map (by unfold maxLen; decide) _ _ (.bool true) (by rfl) (by rfl) (keyOf_bool_mk Tryd.underlying4 true) (.lit (.int .i64 2)) [] (plainElem_int Tryd.underlying3 (by decide)) ?_
              intro w9 hm9 hg9
              have Z2 := Lib.hid (Z2.out.ins hm9 hg9)
              clear hm9 hg9
              refine hK.out _ _ trivial (fun hHeld => ?_)
              clear hHeld hK K
              try simp only [Act.put]
              refine wpAnyT_take (i := 8) (oi := { dst := some 33, op := Go.Op.move (Go.Operand.tmp 32), type := 53, pos := "law.go:227", after := #[{ on := 5, ground := Go.Ground.data }, { on := 6, ground := Go.Ground.data }, { on := 7, ground := Go.Ground.data }], guard := none }) (v := ?_) rfl (by kernel_rfl) (by kernel_rfl) (by kernel_rfl) (by kernel_rfl) (fun _ _ _ h => h) (Or.inl ⟨by rfl, ?_⟩) trivial ?_
              rotate_left
              · intro w hSw
                clear hSw
                go_simp
                all_goals (with_reducible rfl)
              try simp only [Act.put, List.setIfInBounds_toArray, List.set_cons_zero, List.set_cons_succ]
              refine wpAnyT_one (i := 12) (o := { dst := some 37, op := Go.Op.lookup 53 (Go.Operand.tmp 33) (Go.Operand.tmp 36) false, type := 3, pos := "law.go:227", after := #[{ on := 8, ground := Go.Ground.data }, { on := 11, ground := Go.Ground.data }], guard := none }) (by kernel_rfl) rfl (fun K hK => ?_)
              refine step_lookup (H := Unit) (by rfl) _ _ 53 (by rfl) 4 3 .i64 (bool_keyed Tryd.underlying4) Tryd.underlying53 Tryd.underlying3 (Tryd.zeroValue3 _) _ _ _ (by rfl) Z2.out.map _ (.bool false) (by rfl) (keyOf_bool_mk Tryd.underlying4 false) 0 (by rfl) ?_
              refine hK.out _ _ trivial (fun hHeld => ?_)
              clear hHeld hK K
              try simp only [Act.put, List.setIfInBounds_toArray, List.set_cons_zero, List.set_cons_succ]
              refine wpAnyT_take (i := 13) (oi := { dst := some 38, op := Go.Op.binOp Go.BinOp.add 3 (Go.Operand.tmp 31) (Go.Operand.tmp 37) 3, type := 3, pos := "law.go:227", after := #[{ on := 4, ground := Go.Ground.data }, { on := 12, ground := Go.Ground.data }], guard := none }) (v := ?_) rfl (by kernel_rfl) (by kernel_rfl) (by kernel_rfl) (by kernel_rfl) (fun _ _ _ h => h) (Or.inl ⟨by rfl, ?_⟩) trivial ?_
              rotate_left
              · intro w hSw
                clear hSw
                go_simp
                all_goals (with_reducible rfl)
              try simp only [Act.put, List.setIfInBounds_toArray, List.set_cons_zero, List.set_cons_succ]
              try simp only [hw]
              try simp only [hw3]
              try simp only [hw2]
              refine wpAnyT_take (i := 14) (oi := { dst := some 39, op := Go.Op.binOp Go.BinOp.eql 3 (Go.Operand.tmp 29) (Go.Operand.tmp 38) 3, type := 4, pos := "law.go:227", after := #[{ on := 2, ground := Go.Ground.data }, { on := 13, ground := Go.Ground.data }], guard := none }) (v := ?_) rfl (by kernel_rfl) (by kernel_rfl) (by kernel_rfl) (by kernel_rfl) (fun _ _ _ h => h) (Or.inl ⟨by rfl, ?_⟩) trivial ?_
              rotate_left
              · intro w hSw
                clear hSw
                go_simp
                all_goals (with_reducible rfl)
              try simp only [Act.put, List.setIfInBounds_toArray, List.set_cons_zero, List.set_cons_succ]
              try simp only [he]
              refine wpAnyT_take (i := 15) (oi := { dst := some 40, op := Go.Op.move (Go.Operand.tmp 39), type := 4, pos := "law.go:227", after := #[{ on := 14, ground := Go.Ground.data }, { on := 1, ground := Go.Ground.chain }], guard := none }) (v := ?_) rfl (by kernel_rfl) (by kernel_rfl) (by kernel_rfl) (by kernel_rfl) (fun _ _ _ h => h) (Or.inl ⟨by rfl, ?_⟩) trivial ?_
              rotate_left
              · intro w hSw
                clear hSw
                go_simp
                all_goals (with_reducible rfl)
              try simp only [Act.put, List.setIfInBounds_toArray, List.set_cons_zero, List.set_cons_succ]
              refine wpAnyT_take (i := 16) (oi := { dst := some 41, op := Go.Op.move (Go.Operand.tmp 6), type := 25, pos := "law.go:227", after := #[{ on := 15, ground := Go.Ground.guard }], guard := some (15, true) }) (v := ?_) rfl (by kernel_rfl) (by kernel_rfl) (by kernel_rfl) (by kernel_rfl) (fun _ _ _ h => h) (Or.inl ⟨by rfl, ?_⟩) trivial ?_
              rotate_left
              · intro w hSw
                clear hSw
                go_simp
                all_goals (with_reducible rfl)
              try simp only [Act.put, List.setIfInBounds_toArray, List.set_cons_zero, List.set_cons_succ]
              refine wpAnyT_take (i := 17) (oi := { dst := some 42, op := Go.Op.binOp Go.BinOp.eql 25 (Go.Operand.tmp 41) (Go.Operand.const (Go.Value.int Go.IntKind.i64 0)) 25, type := 4, pos := "law.go:227", after := #[{ on := 16, ground := Go.Ground.data }, { on := 15, ground := Go.Ground.guard }], guard := some (15, true) }) (v := ?_) rfl (by kernel_rfl) (by kernel_rfl) (by kernel_rfl) (by kernel_rfl) (fun _ _ _ h => h) (Or.inl ⟨by rfl, ?_⟩) trivial ?_
              rotate_left
              · intro w hSw
                clear hSw
                go_simp
                all_goals (with_reducible rfl)
              try simp only [Act.put, List.setIfInBounds_toArray, List.set_cons_zero, List.set_cons_succ]
              refine wpAnyT_take (i := 18) (oi := { dst := some 43, op := Go.Op.move (Go.Operand.tmp 5), type := 3, pos := "law.go:227", after := #[{ on := 15, ground := Go.Ground.guard }], guard := some (15, true) }) (v := ?_) rfl (by kernel_rfl) (by kernel_rfl) (by kernel_rfl) (by kernel_rfl) (fun _ _ _ h => h) (Or.inl ⟨by rfl, ?_⟩) trivial ?_
              rotate_left
              · intro w hSw
                clear hSw
                go_simp
                all_goals (with_reducible rfl)
              try simp only [Act.put, List.setIfInBounds_toArray, List.set_cons_zero, List.set_cons_succ]
              refine wpAnyT_take (i := 19) (oi := { dst := some 44, op := Go.Op.binOp Go.BinOp.add 3 (Go.Operand.tmp 43) (Go.Operand.const (Go.Value.int Go.IntKind.i64 2)) 3, type := 3, pos := "law.go:227", after := #[{ on := 18, ground := Go.Ground.data }, { on := 15, ground := Go.Ground.guard }], guard := some (15, true) }) (v := ?_) rfl (by kernel_rfl) (by kernel_rfl) (by kernel_rfl) (by kernel_rfl) (fun _ _ _ h => h) (Or.inl ⟨by rfl, ?_⟩) trivial ?_
              rotate_left
              · intro w hSw
                clear hSw
                go_simp
                all_goals (with_reducible rfl)
              try simp only [Act.put, List.setIfInBounds_toArray, List.set_cons_zero, List.set_cons_succ]
              refine wpAnyT_take (i := 20) (oi := { dst := some 45, op := Go.Op.binOp Go.BinOp.leq 3 (Go.Operand.tmp 44) (Go.Operand.const (Go.Value.int Go.IntKind.i64 400)) 3, type := 4, pos := "law.go:227", after := #[{ on := 19, ground := Go.Ground.data }, { on := 15, ground := Go.Ground.guard }], guard := some (15, true) }) (v := ?_) rfl (by kernel_rfl) (by kernel_rfl) (by kernel_rfl) (by kernel_rfl) (fun _ _ _ h => h) (Or.inl ⟨by rfl, ?_⟩) trivial ?_
              rotate_left
              · intro w hSw
                clear hSw
                go_simp
                all_goals (with_reducible rfl)
              try simp only [Act.put, List.setIfInBounds_toArray, List.set_cons_zero, List.set_cons_succ]
              refine wpAnyT_take (i := 21) (oi := { dst := some 46, op := Go.Op.binOp Go.BinOp.eql 4 (Go.Operand.tmp 42) (Go.Operand.tmp 45) 4, type := 4, pos := "law.go:227", after := #[{ on := 17, ground := Go.Ground.data }, { on := 20, ground := Go.Ground.data }, { on := 15, ground := Go.Ground.guard }], guard := some (15, true) }) (v := ?_) rfl (by kernel_rfl) (by kernel_rfl) (by kernel_rfl) (by kernel_rfl) (fun _ _ _ h => h) (Or.inl ⟨by rfl, ?_⟩) trivial ?_
              rotate_left
              · intro w hSw
                clear hSw
                go_simp
                all_goals (with_reducible rfl)
              try simp only [Act.put, List.setIfInBounds_toArray, List.set_cons_zero, List.set_cons_succ]
              refine wpAnyT_take (i := 22) (oi := { dst := some 47, op := Go.Op.pick (Go.Operand.tmp 40) (Go.Operand.tmp 46) (Go.Operand.const (Go.Value.bool false)), type := 4, pos := "law.go:227", after := #[{ on := 15, ground := Go.Ground.data }, { on := 21, ground := Go.Ground.data }], guard := none }) (v := ?_) rfl (by kernel_rfl) (by kernel_rfl) (by kernel_rfl) (by kernel_rfl) (fun _ _ _ h => h) (Or.inl ⟨by rfl, ?_⟩) trivial ?_
              rotate_left
              · intro w hSw
                clear hSw
                go_simp
                all_goals (with_reducible rfl)
              try simp only [Act.put, List.setIfInBounds_toArray, List.set_cons_zero, List.set_cons_succ]
              refine wpAnyT_take (i := 23) (oi := { dst := some 2, op := Go.Op.assign (Go.Operand.tmp 47), type := 4, pos := "law.go:227", after := #[{ on := 22, ground := Go.Ground.data }, { on := 15, ground := Go.Ground.chain }, { on := 0, ground := Go.Ground.phase }, { on := 1, ground := Go.Ground.phase }, { on := 2, ground := Go.Ground.phase }, { on := 3, ground := Go.Ground.phase }, { on := 4, ground := Go.Ground.phase }, { on := 5, ground := Go.Ground.phase }, { on := 6, ground := Go.Ground.phase }, { on := 7, ground := Go.Ground.phase }, { on := 8, ground := Go.Ground.phase }, { on := 9, ground := Go.Ground.phase }, { on := 10, ground := Go.Ground.phase }, { on := 11, ground := Go.Ground.phase }, { on := 12, ground := Go.Ground.phase }, { on := 13, ground := Go.Ground.phase }, { on := 14, ground := Go.Ground.phase }, { on := 15, ground := Go.Ground.phase }, { on := 16, ground := Go.Ground.phase }, { on := 17, ground := Go.Ground.phase }, { on := 18, ground := Go.Ground.phase }, { on := 19, ground := Go.Ground.phase }, { on := 20, ground := Go.Ground.phase }, { on := 21, ground := Go.Ground.phase }, { on := 22, ground := Go.Ground.phase }], guard := none }) (v := ?_) rfl (by kernel_rfl) (by kernel_rfl) (by kernel_rfl) (by kernel_rfl) (fun _ _ _ h => h) (Or.inl ⟨by rfl, ?_⟩) trivial ?_
              rotate_left
              · intro w hSw
                clear hSw
                go_simp
                all_goals (with_reducible rfl)
              try simp only [Act.put, List.setIfInBounds_toArray, List.set_cons_zero, List.set_cons_succ]
              refine wpAnyT_done (by kernel_rfl) ?_ _
              go_wp2_with fail
              go_ret
              exact ⟨rfl, Z2.out.dn⟩
          · refine step_insert (H := Unit) (by rfl) _ _ _ 53 (by rfl) 4 3 (bool_keyed Tryd.underlying4) Tryd.underlying53 (plainElem Tryd.prog 3) _ _ _ (by rfl) Z2.out.map (by unfold maxLen; decide) _ _ (.bool true) (by rfl) (by rfl) (keyOf_bool_mk Tryd.underlying4 true) (.lit (.int .i64 2)) [] (plainElem_int Tryd.underlying3 (by decide)) ?_
            intro w9 hm9 hg9
            have Z2 := Lib.hid (Z2.out.ins hm9 hg9)
            clear hm9 hg9
            refine hK.out _ _ trivial (fun hHeld => ?_)
            clear hHeld hK K
            try simp only [Act.put]
            refine wpAnyT_two (i := 1) (j := 7) (oi := { dst := some 28, op := Go.Op.call { callee := Go.Callee.value (Go.Operand.func 39), args := #[Go.Operand.tmp 27], argTypes := #[48] }, type := 51, pos := "law.go:227", after := #[{ on := 0, ground := Go.Ground.data }], guard := none }) (oj := { dst := none, op := Go.Op.insert 53 (Go.Operand.tmp 32) (Go.Operand.const (Go.Value.bool false)) (Go.Operand.const (Go.Value.int Go.IntKind.i64 0)), type := 0, pos := "law.go:227", after := #[{ on := 5, ground := Go.Ground.data }], guard := none }) (by kernel_rfl) rfl rfl (fun K hK => ?_) (fun K hK => ?_)
            · go_simp
              go_at_call 39
              refine (LiAt.opens Z2.out hS').mono ?_
              rintro e w8 ⟨a8, c8, rfl, hA8⟩
              have Z2 := Lib.hid hA8
              clear hA8
              go_wp2_with fail
              refine hK.out _ _ trivial (fun hHeld => ?_)
              clear hHeld hK K
              try simp only [Act.put, List.setIfInBounds_toArray, List.set_cons_zero, List.set_cons_succ]
              refine wpAnyT_take (i := 2) (oi := { dst := some 29, op := Go.Op.call { callee := Go.Callee.builtin Go.Builtin.len, args := #[Go.Operand.tmp 28], argTypes := #[51] }, type := 3, pos := "law.go:227", after := #[{ on := 1, ground := Go.Ground.data }], guard := none }) (v := ?_) rfl (by kernel_rfl) (by kernel_rfl) (by kernel_rfl) (by kernel_rfl) (fun _ _ _ h => h) (Or.inl ⟨by rfl, ?_⟩) trivial ?_
              rotate_left
              · intro w hSw
                clear hSw
                go_simp
                all_goals (with_reducible rfl)
              try simp only [Act.put, List.setIfInBounds_toArray, List.set_cons_zero, List.set_cons_succ]
              refine wpAnyT_one (i := 7) (o := { dst := none, op := Go.Op.insert 53 (Go.Operand.tmp 32) (Go.Operand.const (Go.Value.bool false)) (Go.Operand.const (Go.Value.int Go.IntKind.i64 0)), type := 0, pos := "law.go:227", after := #[{ on := 5, ground := Go.Ground.data }], guard := none }) (by kernel_rfl) rfl (fun K hK => ?_)
              refine step_insert (H := Unit) (by rfl) _ _ _ 53 (by rfl) 4 3 (bool_keyed Tryd.underlying4) Tryd.underlying53 (plainElem Tryd.prog 3) _ _ _ (by rfl) Z2.out.map (by unfold maxLen; decide) _ _ (.bool false) (by rfl) (by rfl) (keyOf_bool_mk Tryd.underlying4 false) (.lit (.int .i64 0)) [] (plainElem_int Tryd.underlying3 (by decide)) ?_
              intro w9 hm9 hg9
              have Z2 := Lib.hid (Z2.out.ins hm9 hg9)
              clear hm9 hg9
              refine hK.out _ _ trivial (fun hHeld => ?_)
              clear hHeld hK K
              try simp only [Act.put]
              refine wpAnyT_take (i := 8) (oi := { dst := some 33, op := Go.Op.move (Go.Operand.tmp 32), type := 53, pos := "law.go:227", after := #[{ on := 5, ground := Go.Ground.data }, { on := 6, ground := Go.Ground.data }, { on := 7, ground := Go.Ground.data }], guard := none }) (v := ?_) rfl (by kernel_rfl) (by kernel_rfl) (by kernel_rfl) (by kernel_rfl) (fun _ _ _ h => h) (Or.inl ⟨by rfl, ?_⟩) trivial ?_
              rotate_left
              · intro w hSw
                clear hSw
                go_simp
                all_goals (with_reducible rfl)
              try simp only [Act.put, List.setIfInBounds_toArray, List.set_cons_zero, List.set_cons_succ]
              refine wpAnyT_one (i := 12) (o := { dst := some 37, op := Go.Op.lookup 53 (Go.Operand.tmp 33) (Go.Operand.tmp 36) false, type := 3, pos := "law.go:227", after := #[{ on := 8, ground := Go.Ground.data }, { on := 11, ground := Go.Ground.data }], guard := none }) (by kernel_rfl) rfl (fun K hK => ?_)
              refine step_lookup (H := Unit) (by rfl) _ _ 53 (by rfl) 4 3 .i64 (bool_keyed Tryd.underlying4) Tryd.underlying53 Tryd.underlying3 (Tryd.zeroValue3 _) _ _ _ (by rfl) Z2.out.map _ (.bool false) (by rfl) (keyOf_bool_mk Tryd.underlying4 false) 0 (by rfl) ?_
              refine hK.out _ _ trivial (fun hHeld => ?_)
              clear hHeld hK K
              try simp only [Act.put, List.setIfInBounds_toArray, List.set_cons_zero, List.set_cons_succ]
              refine wpAnyT_take (i := 13) (oi := { dst := some 38, op := Go.Op.binOp Go.BinOp.add 3 (Go.Operand.tmp 31) (Go.Operand.tmp 37) 3, type := 3, pos := "law.go:227", after := #[{ on := 4, ground := Go.Ground.data }, { on := 12, ground := Go.Ground.data }], guard := none }) (v := ?_) rfl (by kernel_rfl) (by kernel_rfl) (by kernel_rfl) (by kernel_rfl) (fun _ _ _ h => h) (Or.inl ⟨by rfl, ?_⟩) trivial ?_
              rotate_left
              · intro w hSw
                clear hSw
                go_simp
                all_goals (with_reducible rfl)
              try simp only [Act.put, List.setIfInBounds_toArray, List.set_cons_zero, List.set_cons_succ]
              try simp only [hw]
              try simp only [hw3]
              try simp only [hw2]
              refine wpAnyT_take (i := 14) (oi := { dst := some 39, op := Go.Op.binOp Go.BinOp.eql 3 (Go.Operand.tmp 29) (Go.Operand.tmp 38) 3, type := 4, pos := "law.go:227", after := #[{ on := 2, ground := Go.Ground.data }, { on := 13, ground := Go.Ground.data }], guard := none }) (v := ?_) rfl (by kernel_rfl) (by kernel_rfl) (by kernel_rfl) (by kernel_rfl) (fun _ _ _ h => h) (Or.inl ⟨by rfl, ?_⟩) trivial ?_
              rotate_left
              · intro w hSw
                clear hSw
                go_simp
                all_goals (with_reducible rfl)
              try simp only [Act.put, List.setIfInBounds_toArray, List.set_cons_zero, List.set_cons_succ]
              try simp only [he]
              refine wpAnyT_take (i := 15) (oi := { dst := some 40, op := Go.Op.move (Go.Operand.tmp 39), type := 4, pos := "law.go:227", after := #[{ on := 14, ground := Go.Ground.data }, { on := 1, ground := Go.Ground.chain }], guard := none }) (v := ?_) rfl (by kernel_rfl) (by kernel_rfl) (by kernel_rfl) (by kernel_rfl) (fun _ _ _ h => h) (Or.inl ⟨by rfl, ?_⟩) trivial ?_
              rotate_left
              · intro w hSw
                clear hSw
                go_simp
                all_goals (with_reducible rfl)
              try simp only [Act.put, List.setIfInBounds_toArray, List.set_cons_zero, List.set_cons_succ]
              refine wpAnyT_take (i := 16) (oi := { dst := some 41, op := Go.Op.move (Go.Operand.tmp 6), type := 25, pos := "law.go:227", after := #[{ on := 15, ground := Go.Ground.guard }], guard := some (15, true) }) (v := ?_) rfl (by kernel_rfl) (by kernel_rfl) (by kernel_rfl) (by kernel_rfl) (fun _ _ _ h => h) (Or.inl ⟨by rfl, ?_⟩) trivial ?_
              rotate_left
              · intro w hSw
                clear hSw
                go_simp
                all_goals (with_reducible rfl)
              try simp only [Act.put, List.setIfInBounds_toArray, List.set_cons_zero, List.set_cons_succ]
              refine wpAnyT_take (i := 17) (oi := { dst := some 42, op := Go.Op.binOp Go.BinOp.eql 25 (Go.Operand.tmp 41) (Go.Operand.const (Go.Value.int Go.IntKind.i64 0)) 25, type := 4, pos := "law.go:227", after := #[{ on := 16, ground := Go.Ground.data }, { on := 15, ground := Go.Ground.guard }], guard := some (15, true) }) (v := ?_) rfl (by kernel_rfl) (by kernel_rfl) (by kernel_rfl) (by kernel_rfl) (fun _ _ _ h => h) (Or.inl ⟨by rfl, ?_⟩) trivial ?_
              rotate_left
              · intro w hSw
                clear hSw
                go_simp
                all_goals (with_reducible rfl)
              try simp only [Act.put, List.setIfInBounds_toArray, List.set_cons_zero, List.set_cons_succ]
              refine wpAnyT_take (i := 18) (oi := { dst := some 43, op := Go.Op.move (Go.Operand.tmp 5), type := 3, pos := "law.go:227", after := #[{ on := 15, ground := Go.Ground.guard }], guard := some (15, true) }) (v := ?_) rfl (by kernel_rfl) (by kernel_rfl) (by kernel_rfl) (by kernel_rfl) (fun _ _ _ h => h) (Or.inl ⟨by rfl, ?_⟩) trivial ?_
              rotate_left
              · intro w hSw
                clear hSw
                go_simp
                all_goals (with_reducible rfl)
              try simp only [Act.put, List.setIfInBounds_toArray, List.set_cons_zero, List.set_cons_succ]
              refine wpAnyT_take (i := 19) (oi := { dst := some 44, op := Go.Op.binOp Go.BinOp.add 3 (Go.Operand.tmp 43) (Go.Operand.const (Go.Value.int Go.IntKind.i64 2)) 3, type := 3, pos := "law.go:227", after := #[{ on := 18, ground := Go.Ground.data }, { on := 15, ground := Go.Ground.guard }], guard := some (15, true) }) (v := ?_) rfl (by kernel_rfl) (by kernel_rfl) (by kernel_rfl) (by kernel_rfl) (fun _ _ _ h => h) (Or.inl ⟨by rfl, ?_⟩) trivial ?_
              rotate_left
              · intro w hSw
                clear hSw
                go_simp
                all_goals (with_reducible rfl)
              try simp only [Act.put, List.setIfInBounds_toArray, List.set_cons_zero, List.set_cons_succ]
              refine wpAnyT_take (i := 20) (oi := { dst := some 45, op := Go.Op.binOp Go.BinOp.leq 3 (Go.Operand.tmp 44) (Go.Operand.const (Go.Value.int Go.IntKind.i64 400)) 3, type := 4, pos := "law.go:227", after := #[{ on := 19, ground := Go.Ground.data }, { on := 15, ground := Go.Ground.guard }], guard := some (15, true) }) (v := ?_) rfl (by kernel_rfl) (by kernel_rfl) (by kernel_rfl) (by kernel_rfl) (fun _ _ _ h => h) (Or.inl ⟨by rfl, ?_⟩) trivial ?_
              rotate_left
              · intro w hSw
                clear hSw
                go_simp
                all_goals (with_reducible rfl)
              try simp only [Act.put, List.setIfInBounds_toArray, List.set_cons_zero, List.set_cons_succ]
              refine wpAnyT_take (i := 21) (oi := { dst := some 46, op := Go.Op.binOp Go.BinOp.eql 4 (Go.Operand.tmp 42) (Go.Operand.tmp 45) 4, type := 4, pos := "law.go:227", after := #[{ on := 17, ground := Go.Ground.data }, { on := 20, ground := Go.Ground.data }, { on := 15, ground := Go.Ground.guard }], guard := some (15, true) }) (v := ?_) rfl (by kernel_rfl) (by kernel_rfl) (by kernel_rfl) (by kernel_rfl) (fun _ _ _ h => h) (Or.inl ⟨by rfl, ?_⟩) trivial ?_
              rotate_left
              · intro w hSw
                clear hSw
                go_simp
                all_goals (with_reducible rfl)
              try simp only [Act.put, List.setIfInBounds_toArray, List.set_cons_zero, List.set_cons_succ]
              refine wpAnyT_take (i := 22) (oi := { dst := some 47, op := Go.Op.pick (Go.Operand.tmp 40) (Go.Operand.tmp 46) (Go.Operand.const (Go.Value.bool false)), type := 4, pos := "law.go:227", after := #[{ on := 15, ground := Go.Ground.data }, { on := 21, ground := Go.Ground.data }], guard := none }) (v := ?_) rfl (by kernel_rfl) (by kernel_rfl) (by kernel_rfl) (by kernel_rfl) (fun _ _ _ h => h) (Or.inl ⟨by rfl, ?_⟩) trivial ?_
              rotate_left
              · intro w hSw
                clear hSw
                go_simp
                all_goals (with_reducible rfl)
              try simp only [Act.put, List.setIfInBounds_toArray, List.set_cons_zero, List.set_cons_succ]
              refine wpAnyT_take (i := 23) (oi := { dst := some 2, op := Go.Op.assign (Go.Operand.tmp 47), type := 4, pos := "law.go:227", after := #[{ on := 22, ground := Go.Ground.data }, { on := 15, ground := Go.Ground.chain }, { on := 0, ground := Go.Ground.phase }, { on := 1, ground := Go.Ground.phase }, { on := 2, ground := Go.Ground.phase }, { on := 3, ground := Go.Ground.phase }, { on := 4, ground := Go.Ground.phase }, { on := 5, ground := Go.Ground.phase }, { on := 6, ground := Go.Ground.phase }, { on := 7, ground := Go.Ground.phase }, { on := 8, ground := Go.Ground.phase }, { on := 9, ground := Go.Ground.phase }, { on := 10, ground := Go.Ground.phase }, { on := 11, ground := Go.Ground.phase }, { on := 12, ground := Go.Ground.phase }, { on := 13, ground := Go.Ground.phase }, { on := 14, ground := Go.Ground.phase }, { on := 15, ground := Go.Ground.phase }, { on := 16, ground := Go.Ground.phase }, { on := 17, ground := Go.Ground.phase }, { on := 18, ground := Go.Ground.phase }, { on := 19, ground := Go.Ground.phase }, { on := 20, ground := Go.Ground.phase }, { on := 21, ground := Go.Ground.phase }, { on := 22, ground := Go.Ground.phase }], guard := none }) (v := ?_) rfl (by kernel_rfl) (by kernel_rfl) (by kernel_rfl) (by kernel_rfl) (fun _ _ _ h => h) (Or.inl ⟨by rfl, ?_⟩) trivial ?_
              rotate_left
              · intro w hSw
                clear hSw
                go_simp
                all_goals (with_reducible rfl)
              try simp only [Act.put, List.setIfInBounds_toArray, List.set_cons_zero, List.set_cons_succ]
              refine wpAnyT_done (by kernel_rfl) ?_ _
              go_wp2_with fail
              go_ret
              exact ⟨rfl, Z2.out.dn⟩
            · refine step_insert (H := Unit) (by rfl) _ _ _ 53 (by rfl) 4 3 (bool_keyed Tryd.underlying4) Tryd.underlying53 (plainElem Tryd.prog 3) _ _ _ (by rfl) Z2.out.map (by unfold maxLen; decide) _ _ (.bool false) (by rfl) (by rfl) (keyOf_bool_mk Tryd.underlying4 false) (.lit (.int .i64 0)) [] (plainElem_int Tryd.underlying3 (by decide)) ?_
              intro w9 hm9 hg9
              have Z2 := Lib.hid (Z2.out.ins hm9 hg9)
              clear hm9 hg9
              refine hK.out _ _ trivial (fun hHeld => ?_)
              clear hHeld hK K
              try simp only [Act.put]
              refine wpAnyT_take (i := 8) (oi := { dst := some 33, op := Go.Op.move (Go.Operand.tmp 32), type := 53, pos := "law.go:227", after := #[{ on := 5, ground := Go.Ground.data }, { on := 6, ground := Go.Ground.data }, { on := 7, ground := Go.Ground.data }], guard := none }) (v := ?_) rfl (by kernel_rfl) (by kernel_rfl) (by kernel_rfl) (by kernel_rfl) (fun _ _ _ h => h) (Or.inl ⟨by rfl, ?_⟩) trivial ?_
              rotate_left
              · intro w hSw
                clear hSw
                go_simp
                all_goals (with_reducible rfl)
              try simp only [Act.put, List.setIfInBounds_toArray, List.set_cons_zero, List.set_cons_succ]
              refine wpAnyT_two (i := 1) (j := 12) (oi := { dst := some 28, op := Go.Op.call { callee := Go.Callee.value (Go.Operand.func 39), args := #[Go.Operand.tmp 27], argTypes := #[48] }, type := 51, pos := "law.go:227", after := #[{ on := 0, ground := Go.Ground.data }], guard := none }) (oj := { dst := some 37, op := Go.Op.lookup 53 (Go.Operand.tmp 33) (Go.Operand.tmp 36) false, type := 3, pos := "law.go:227", after := #[{ on := 8, ground := Go.Ground.data }, { on := 11, ground := Go.Ground.data }], guard := none }) (by kernel_rfl) rfl rfl (fun K hK => ?_) (fun K hK => ?_)
              · go_simp
                go_at_call 39
                refine (LiAt.opens Z2.out hS').mono ?_
                rintro e w8 ⟨a8, c8, rfl, hA8⟩
                have Z2 := Lib.hid hA8
                clear hA8
                go_wp2_with fail
                refine hK.out _ _ trivial (fun hHeld => ?_)
                clear hHeld hK K
                try simp only [Act.put, List.setIfInBounds_toArray, List.set_cons_zero, List.set_cons_succ]
                refine wpAnyT_take (i := 2) (oi := { dst := some 29, op := Go.Op.call { callee := Go.Callee.builtin Go.Builtin.len, args := #[Go.Operand.tmp 28], argTypes := #[51] }, type := 3, pos := "law.go:227", after := #[{ on := 1, ground := Go.Ground.data }], guard := none }) (v := ?_) rfl (by kernel_rfl) (by kernel_rfl) (by kernel_rfl) (by kernel_rfl) (fun _ _ _ h => h) (Or.inl ⟨by rfl, ?_⟩) trivial ?_
                rotate_left
                · intro w hSw
                  clear hSw
                  go_simp
                  all_goals (with_reducible rfl)
                try simp only [Act.put, List.setIfInBounds_toArray, List.set_cons_zero, List.set_cons_succ]
                refine wpAnyT_one (i := 12) (o := { dst := some 37, op := Go.Op.lookup 53 (Go.Operand.tmp 33) (Go.Operand.tmp 36) false, type := 3, pos := "law.go:227", after := #[{ on := 8, ground := Go.Ground.data }, { on := 11, ground := Go.Ground.data }], guard := none }) (by kernel_rfl) rfl (fun K hK => ?_)
                refine step_lookup (H := Unit) (by rfl) _ _ 53 (by rfl) 4 3 .i64 (bool_keyed Tryd.underlying4) Tryd.underlying53 Tryd.underlying3 (Tryd.zeroValue3 _) _ _ _ (by rfl) Z2.out.map _ (.bool false) (by rfl) (keyOf_bool_mk Tryd.underlying4 false) 0 (by rfl) ?_
                refine hK.out _ _ trivial (fun hHeld => ?_)
                clear hHeld hK K
                try simp only [Act.put, List.setIfInBounds_toArray, List.set_cons_zero, List.set_cons_succ]
                refine wpAnyT_take (i := 13) (oi := { dst := some 38, op := Go.Op.binOp Go.BinOp.add 3 (Go.Operand.tmp 31) (Go.Operand.tmp 37) 3, type := 3, pos := "law.go:227", after := #[{ on := 4, ground := Go.Ground.data }, { on := 12, ground := Go.Ground.data }], guard := none }) (v := ?_) rfl (by kernel_rfl) (by kernel_rfl) (by kernel_rfl) (by kernel_rfl) (fun _ _ _ h => h) (Or.inl ⟨by rfl, ?_⟩) trivial ?_
                rotate_left
                · intro w hSw
                  clear hSw
                  go_simp
                  all_goals (with_reducible rfl)
                try simp only [Act.put, List.setIfInBounds_toArray, List.set_cons_zero, List.set_cons_succ]
                try simp only [hw]
                try simp only [hw3]
                try simp only [hw2]
                refine wpAnyT_take (i := 14) (oi := { dst := some 39, op := Go.Op.binOp Go.BinOp.eql 3 (Go.Operand.tmp 29) (Go.Operand.tmp 38) 3, type := 4, pos := "law.go:227", after := #[{ on := 2, ground := Go.Ground.data }, { on := 13, ground := Go.Ground.data }], guard := none }) (v := ?_) rfl (by kernel_rfl) (by kernel_rfl) (by kernel_rfl) (by kernel_rfl) (fun _ _ _ h => h) (Or.inl ⟨by rfl, ?_⟩) trivial ?_
                rotate_left
                · intro w hSw
                  clear hSw
                  go_simp
                  all_goals (with_reducible rfl)
                try simp only [Act.put, List.setIfInBounds_toArray, List.set_cons_zero, List.set_cons_succ]
                try simp only [he]
                refine wpAnyT_take (i := 15) (oi := { dst := some 40, op := Go.Op.move (Go.Operand.tmp 39), type := 4, pos := "law.go:227", after := #[{ on := 14, ground := Go.Ground.data }, { on := 1, ground := Go.Ground.chain }], guard := none }) (v := ?_) rfl (by kernel_rfl) (by kernel_rfl) (by kernel_rfl) (by kernel_rfl) (fun _ _ _ h => h) (Or.inl ⟨by rfl, ?_⟩) trivial ?_
                rotate_left
                · intro w hSw
                  clear hSw
                  go_simp
                  all_goals (with_reducible rfl)
                try simp only [Act.put, List.setIfInBounds_toArray, List.set_cons_zero, List.set_cons_succ]
                refine wpAnyT_take (i := 16) (oi := { dst := some 41, op := Go.Op.move (Go.Operand.tmp 6), type := 25, pos := "law.go:227", after := #[{ on := 15, ground := Go.Ground.guard }], guard := some (15, true) }) (v := ?_) rfl (by kernel_rfl) (by kernel_rfl) (by kernel_rfl) (by kernel_rfl) (fun _ _ _ h => h) (Or.inl ⟨by rfl, ?_⟩) trivial ?_
                rotate_left
                · intro w hSw
                  clear hSw
                  go_simp
                  all_goals (with_reducible rfl)
                try simp only [Act.put, List.setIfInBounds_toArray, List.set_cons_zero, List.set_cons_succ]
                refine wpAnyT_take (i := 17) (oi := { dst := some 42, op := Go.Op.binOp Go.BinOp.eql 25 (Go.Operand.tmp 41) (Go.Operand.const (Go.Value.int Go.IntKind.i64 0)) 25, type := 4, pos := "law.go:227", after := #[{ on := 16, ground := Go.Ground.data }, { on := 15, ground := Go.Ground.guard }], guard := some (15, true) }) (v := ?_) rfl (by kernel_rfl) (by kernel_rfl) (by kernel_rfl) (by kernel_rfl) (fun _ _ _ h => h) (Or.inl ⟨by rfl, ?_⟩) trivial ?_
                rotate_left
                · intro w hSw
                  clear hSw
                  go_simp
                  all_goals (with_reducible rfl)
                try simp only [Act.put, List.setIfInBounds_toArray, List.set_cons_zero, List.set_cons_succ]
                refine wpAnyT_take (i := 18) (oi := { dst := some 43, op := Go.Op.move (Go.Operand.tmp 5), type := 3, pos := "law.go:227", after := #[{ on := 15, ground := Go.Ground.guard }], guard := some (15, true) }) (v := ?_) rfl (by kernel_rfl) (by kernel_rfl) (by kernel_rfl) (by kernel_rfl) (fun _ _ _ h => h) (Or.inl ⟨by rfl, ?_⟩) trivial ?_
                rotate_left
                · intro w hSw
                  clear hSw
                  go_simp
                  all_goals (with_reducible rfl)
                try simp only [Act.put, List.setIfInBounds_toArray, List.set_cons_zero, List.set_cons_succ]
                refine wpAnyT_take (i := 19) (oi := { dst := some 44, op := Go.Op.binOp Go.BinOp.add 3 (Go.Operand.tmp 43) (Go.Operand.const (Go.Value.int Go.IntKind.i64 2)) 3, type := 3, pos := "law.go:227", after := #[{ on := 18, ground := Go.Ground.data }, { on := 15, ground := Go.Ground.guard }], guard := some (15, true) }) (v := ?_) rfl (by kernel_rfl) (by kernel_rfl) (by kernel_rfl) (by kernel_rfl) (fun _ _ _ h => h) (Or.inl ⟨by rfl, ?_⟩) trivial ?_
                rotate_left
                · intro w hSw
                  clear hSw
                  go_simp
                  all_goals (with_reducible rfl)
                try simp only [Act.put, List.setIfInBounds_toArray, List.set_cons_zero, List.set_cons_succ]
                refine wpAnyT_take (i := 20) (oi := { dst := some 45, op := Go.Op.binOp Go.BinOp.leq 3 (Go.Operand.tmp 44) (Go.Operand.const (Go.Value.int Go.IntKind.i64 400)) 3, type := 4, pos := "law.go:227", after := #[{ on := 19, ground := Go.Ground.data }, { on := 15, ground := Go.Ground.guard }], guard := some (15, true) }) (v := ?_) rfl (by kernel_rfl) (by kernel_rfl) (by kernel_rfl) (by kernel_rfl) (fun _ _ _ h => h) (Or.inl ⟨by rfl, ?_⟩) trivial ?_
                rotate_left
                · intro w hSw
                  clear hSw
                  go_simp
                  all_goals (with_reducible rfl)
                try simp only [Act.put, List.setIfInBounds_toArray, List.set_cons_zero, List.set_cons_succ]
                refine wpAnyT_take (i := 21) (oi := { dst := some 46, op := Go.Op.binOp Go.BinOp.eql 4 (Go.Operand.tmp 42) (Go.Operand.tmp 45) 4, type := 4, pos := "law.go:227", after := #[{ on := 17, ground := Go.Ground.data }, { on := 20, ground := Go.Ground.data }, { on := 15, ground := Go.Ground.guard }], guard := some (15, true) }) (v := ?_) rfl (by kernel_rfl) (by kernel_rfl) (by kernel_rfl) (by kernel_rfl) (fun _ _ _ h => h) (Or.inl ⟨by rfl, ?_⟩) trivial ?_
                rotate_left
                · intro w hSw
                  clear hSw
                  go_simp
                  all_goals (with_reducible rfl)
                try simp only [Act.put, List.setIfInBounds_toArray, List.set_cons_zero, List.set_cons_succ]
                refine wpAnyT_take (i := 22) (oi := { dst := some 47, op := Go.Op.pick (Go.Operand.tmp 40) (Go.Operand.tmp 46) (Go.Operand.const (Go.Value.bool false)), type := 4, pos := "law.go:227", after := #[{ on := 15, ground := Go.Ground.data }, { on := 21, ground := Go.Ground.data }], guard := none }) (v := ?_) rfl (by kernel_rfl) (by kernel_rfl) (by kernel_rfl) (by kernel_rfl) (fun _ _ _ h => h) (Or.inl ⟨by rfl, ?_⟩) trivial ?_
                rotate_left
                · intro w hSw
                  clear hSw
                  go_simp
                  all_goals (with_reducible rfl)
                try simp only [Act.put, List.setIfInBounds_toArray, List.set_cons_zero, List.set_cons_succ]
                refine wpAnyT_take (i := 23) (oi := { dst := some 2, op := Go.Op.assign (Go.Operand.tmp 47), type := 4, pos := "law.go:227", after := #[{ on := 22, ground := Go.Ground.data }, { on := 15, ground := Go.Ground.chain }, { on := 0, ground := Go.Ground.phase }, { on := 1, ground := Go.Ground.phase }, { on := 2, ground := Go.Ground.phase }, { on := 3, ground := Go.Ground.phase }, { on := 4, ground := Go.Ground.phase }, { on := 5, ground := Go.Ground.phase }, { on := 6, ground := Go.Ground.phase }, { on := 7, ground := Go.Ground.phase }, { on := 8, ground := Go.Ground.phase }, { on := 9, ground := Go.Ground.phase }, { on := 10, ground := Go.Ground.phase }, { on := 11, ground := Go.Ground.phase }, { on := 12, ground := Go.Ground.phase }, { on := 13, ground := Go.Ground.phase }, { on := 14, ground := Go.Ground.phase }, { on := 15, ground := Go.Ground.phase }, { on := 16, ground := Go.Ground.phase }, { on := 17, ground := Go.Ground.phase }, { on := 18, ground := Go.Ground.phase }, { on := 19, ground := Go.Ground.phase }, { on := 20, ground := Go.Ground.phase }, { on := 21, ground := Go.Ground.phase }, { on := 22, ground := Go.Ground.phase }], guard := none }) (v := ?_) rfl (by kernel_rfl) (by kernel_rfl) (by kernel_rfl) (by kernel_rfl) (fun _ _ _ h => h) (Or.inl ⟨by rfl, ?_⟩) trivial ?_
                rotate_left
                · intro w hSw
                  clear hSw
                  go_simp
                  all_goals (with_reducible rfl)
                try simp only [Act.put, List.setIfInBounds_toArray, List.set_cons_zero, List.set_cons_succ]
                refine wpAnyT_done (by kernel_rfl) ?_ _
                go_wp2_with fail
                go_ret
                exact ⟨rfl, Z2.out.dn⟩
              · refine step_lookup (H := Unit) (by rfl) _ _ 53 (by rfl) 4 3 .i64 (bool_keyed Tryd.underlying4) Tryd.underlying53 Tryd.underlying3 (Tryd.zeroValue3 _) _ _ _ (by rfl) Z2.out.map _ (.bool false) (by rfl) (keyOf_bool_mk Tryd.underlying4 false) 0 (by rfl) ?_
                refine hK.out _ _ trivial (fun hHeld => ?_)
                clear hHeld hK K
                try simp only [Act.put, List.setIfInBounds_toArray, List.set_cons_zero, List.set_cons_succ]
                refine wpAnyT_take (i := 13) (oi := { dst := some 38, op := Go.Op.binOp Go.BinOp.add 3 (Go.Operand.tmp 31) (Go.Operand.tmp 37) 3, type := 3, pos := "law.go:227", after := #[{ on := 4, ground := Go.Ground.data }, { on := 12, ground := Go.Ground.data }], guard := none }) (v := ?_) rfl (by kernel_rfl) (by kernel_rfl) (by kernel_rfl) (by kernel_rfl) (fun _ _ _ h => h) (Or.inl ⟨by rfl, ?_⟩) trivial ?_
                rotate_left
                · intro w hSw
                  clear hSw
                  go_simp
                  all_goals (with_reducible rfl)
                try simp only [Act.put, List.setIfInBounds_toArray, List.set_cons_zero, List.set_cons_succ]
                try simp only [hw]
                try simp only [hw3]
                try simp only [hw2]
                refine wpAnyT_one (i := 1) (o := { dst := some 28, op := Go.Op.call { callee := Go.Callee.value (Go.Operand.func 39), args := #[Go.Operand.tmp 27], argTypes := #[48] }, type := 51, pos := "law.go:227", after := #[{ on := 0, ground := Go.Ground.data }], guard := none }) (by kernel_rfl) rfl (fun K hK => ?_)
                go_simp
                go_at_call 39
                refine (LiAt.opens Z2.out hS').mono ?_
                rintro e w8 ⟨a8, c8, rfl, hA8⟩
                have Z2 := Lib.hid hA8
                clear hA8
                go_wp2_with fail
                refine hK.out _ _ trivial (fun hHeld => ?_)
                clear hHeld hK K
                try simp only [Act.put, List.setIfInBounds_toArray, List.set_cons_zero, List.set_cons_succ]
                refine wpAnyT_take (i := 2) (oi := { dst := some 29, op := Go.Op.call { callee := Go.Callee.builtin Go.Builtin.len, args := #[Go.Operand.tmp 28], argTypes := #[51] }, type := 3, pos := "law.go:227", after := #[{ on := 1, ground := Go.Ground.data }], guard := none }) (v := ?_) rfl (by kernel_rfl) (by kernel_rfl) (by kernel_rfl) (by kernel_rfl) (fun _ _ _ h => h) (Or.inl ⟨by rfl, ?_⟩) trivial ?_
                rotate_left
                · intro w hSw
                  clear hSw
                  go_simp
                  all_goals (with_reducible rfl)
                try simp only [Act.put, List.setIfInBounds_toArray, List.set_cons_zero, List.set_cons_succ]
                refine wpAnyT_take (i := 14) (oi := { dst := some 39, op := Go.Op.binOp Go.BinOp.eql 3 (Go.Operand.tmp 29) (Go.Operand.tmp 38) 3, type := 4, pos := "law.go:227", after := #[{ on := 2, ground := Go.Ground.data }, { on := 13, ground := Go.Ground.data }], guard := none }) (v := ?_) rfl (by kernel_rfl) (by kernel_rfl) (by kernel_rfl) (by kernel_rfl) (fun _ _ _ h => h) (Or.inl ⟨by rfl, ?_⟩) trivial ?_
                rotate_left
                · intro w hSw
                  clear hSw
                  go_simp
                  all_goals (with_reducible rfl)
                try simp only [Act.put, List.setIfInBounds_toArray, List.set_cons_zero, List.set_cons_succ]
                try simp only [he]
                refine wpAnyT_take (i := 15) (oi := { dst := some 40, op := Go.Op.move (Go.Operand.tmp 39), type := 4, pos := "law.go:227", after := #[{ on := 14, ground := Go.Ground.data }, { on := 1, ground := Go.Ground.chain }], guard := none }) (v := ?_) rfl (by kernel_rfl) (by kernel_rfl) (by kernel_rfl) (by kernel_rfl) (fun _ _ _ h => h) (Or.inl ⟨by rfl, ?_⟩) trivial ?_
                rotate_left
                · intro w hSw
                  clear hSw
                  go_simp
                  all_goals (with_reducible rfl)
                try simp only [Act.put, List.setIfInBounds_toArray, List.set_cons_zero, List.set_cons_succ]
                refine wpAnyT_take (i := 16) (oi := { dst := some 41, op := Go.Op.move (Go.Operand.tmp 6), type := 25, pos := "law.go:227", after := #[{ on := 15, ground := Go.Ground.guard }], guard := some (15, true) }) (v := ?_) rfl (by kernel_rfl) (by kernel_rfl) (by kernel_rfl) (by kernel_rfl) (fun _ _ _ h => h) (Or.inl ⟨by rfl, ?_⟩) trivial ?_
                rotate_left
                · intro w hSw
                  clear hSw
                  go_simp
                  all_goals (with_reducible rfl)
                try simp only [Act.put, List.setIfInBounds_toArray, List.set_cons_zero, List.set_cons_succ]
                refine wpAnyT_take (i := 17) (oi := { dst := some 42, op := Go.Op.binOp Go.BinOp.eql 25 (Go.Operand.tmp 41) (Go.Operand.const (Go.Value.int Go.IntKind.i64 0)) 25, type := 4, pos := "law.go:227", after := #[{ on := 16, ground := Go.Ground.data }, { on := 15, ground := Go.Ground.guard }], guard := some (15, true) }) (v := ?_) rfl (by kernel_rfl) (by kernel_rfl) (by kernel_rfl) (by kernel_rfl) (fun _ _ _ h => h) (Or.inl ⟨by rfl, ?_⟩) trivial ?_
                rotate_left
                · intro w hSw
                  clear hSw
                  go_simp
                  all_goals (with_reducible rfl)
                try simp only [Act.put, List.setIfInBounds_toArray, List.set_cons_zero, List.set_cons_succ]
                refine wpAnyT_take (i := 18) (oi := { dst := some 43, op := Go.Op.move (Go.Operand.tmp 5), type := 3, pos := "law.go:227", after := #[{ on := 15, ground := Go.Ground.guard }], guard := some (15, true) }) (v := ?_) rfl (by kernel_rfl) (by kernel_rfl) (by kernel_rfl) (by kernel_rfl) (fun _ _ _ h => h) (Or.inl ⟨by rfl, ?_⟩) trivial ?_
                rotate_left
                · intro w hSw
                  clear hSw
                  go_simp
                  all_goals (with_reducible rfl)
                try simp only [Act.put, List.setIfInBounds_toArray, List.set_cons_zero, List.set_cons_succ]
                refine wpAnyT_take (i := 19) (oi := { dst := some 44, op := Go.Op.binOp Go.BinOp.add 3 (Go.Operand.tmp 43) (Go.Operand.const (Go.Value.int Go.IntKind.i64 2)) 3, type := 3, pos := "law.go:227", after := #[{ on := 18, ground := Go.Ground.data }, { on := 15, ground := Go.Ground.guard }], guard := some (15, true) }) (v := ?_) rfl (by kernel_rfl) (by kernel_rfl) (by kernel_rfl) (by kernel_rfl) (fun _ _ _ h => h) (Or.inl ⟨by rfl, ?_⟩) trivial ?_
                rotate_left
                · intro w hSw
                  clear hSw
                  go_simp
                  all_goals (with_reducible rfl)
                try simp only [Act.put, List.setIfInBounds_toArray, List.set_cons_zero, List.set_cons_succ]
                refine wpAnyT_take (i := 20) (oi := { dst := some 45, op := Go.Op.binOp Go.BinOp.leq 3 (Go.Operand.tmp 44) (Go.Operand.const (Go.Value.int Go.IntKind.i64 400)) 3, type := 4, pos := "law.go:227", after := #[{ on := 19, ground := Go.Ground.data }, { on := 15, ground := Go.Ground.guard }], guard := some (15, true) }) (v := ?_) rfl (by kernel_rfl) (by kernel_rfl) (by kernel_rfl) (by kernel_rfl) (fun _ _ _ h => h) (Or.inl ⟨by rfl, ?_⟩) trivial ?_
                rotate_left
                · intro w hSw
                  clear hSw
                  go_simp
                  all_goals (with_reducible rfl)
                try simp only [Act.put, List.setIfInBounds_toArray, List.set_cons_zero, List.set_cons_succ]
                refine wpAnyT_take (i := 21) (oi := { dst := some 46, op := Go.Op.binOp Go.BinOp.eql 4 (Go.Operand.tmp 42) (Go.Operand.tmp 45) 4, type := 4, pos := "law.go:227", after := #[{ on := 17, ground := Go.Ground.data }, { on := 20, ground := Go.Ground.data }, { on := 15, ground := Go.Ground.guard }], guard := some (15, true) }) (v := ?_) rfl (by kernel_rfl) (by kernel_rfl) (by kernel_rfl) (by kernel_rfl) (fun _ _ _ h => h) (Or.inl ⟨by rfl, ?_⟩) trivial ?_
                rotate_left
                · intro w hSw
                  clear hSw
                  go_simp
                  all_goals (with_reducible rfl)
                try simp only [Act.put, List.setIfInBounds_toArray, List.set_cons_zero, List.set_cons_succ]
                refine wpAnyT_take (i := 22) (oi := { dst := some 47, op := Go.Op.pick (Go.Operand.tmp 40) (Go.Operand.tmp 46) (Go.Operand.const (Go.Value.bool false)), type := 4, pos := "law.go:227", after := #[{ on := 15, ground := Go.Ground.data }, { on := 21, ground := Go.Ground.data }], guard := none }) (v := ?_) rfl (by kernel_rfl) (by kernel_rfl) (by kernel_rfl) (by kernel_rfl) (fun _ _ _ h => h) (Or.inl ⟨by rfl, ?_⟩) trivial ?_
                rotate_left
                · intro w hSw
                  clear hSw
                  go_simp
                  all_goals (with_reducible rfl)
                try simp only [Act.put, List.setIfInBounds_toArray, List.set_cons_zero, List.set_cons_succ]
                refine wpAnyT_take (i := 23) (oi := { dst := some 2, op := Go.Op.assign (Go.Operand.tmp 47), type := 4, pos := "law.go:227", after := #[{ on := 22, ground := Go.Ground.data }, { on := 15, ground := Go.Ground.chain }, { on := 0, ground := Go.Ground.phase }, { on := 1, ground := Go.Ground.phase }, { on := 2, ground := Go.Ground.phase }, { on := 3, ground := Go.Ground.phase }, { on := 4, ground := Go.Ground.phase }, { on := 5, ground := Go.Ground.phase }, { on := 6, ground := Go.Ground.phase }, { on := 7, ground := Go.Ground.phase }, { on := 8, ground := Go.Ground.phase }, { on := 9, ground := Go.Ground.phase }, { on := 10, ground := Go.Ground.phase }, { on := 11, ground := Go.Ground.phase }, { on := 12, ground := Go.Ground.phase }, { on := 13, ground := Go.Ground.phase }, { on := 14, ground := Go.Ground.phase }, { on := 15, ground := Go.Ground.phase }, { on := 16, ground := Go.Ground.phase }, { on := 17, ground := Go.Ground.phase }, { on := 18, ground := Go.Ground.phase }, { on := 19, ground := Go.Ground.phase }, { on := 20, ground := Go.Ground.phase }, { on := 21, ground := Go.Ground.phase }, { on := 22, ground := Go.Ground.phase }], guard := none }) (v := ?_) rfl (by kernel_rfl) (by kernel_rfl) (by kernel_rfl) (by kernel_rfl) (fun _ _ _ h => h) (Or.inl ⟨by rfl, ?_⟩) trivial ?_
                rotate_left
                · intro w hSw
                  clear hSw
                  go_simp
                  all_goals (with_reducible rfl)
                try simp only [Act.put, List.setIfInBounds_toArray, List.set_cons_zero, List.set_cons_succ]
                refine wpAnyT_done (by kernel_rfl) ?_ _
                go_wp2_with fail
                go_ret
                exact ⟨rfl, Z2.out.dn⟩
          · refine step_insert (H := Unit) (by rfl) _ _ _ 53 (by rfl) 4 3 (bool_keyed Tryd.underlying4) Tryd.underlying53 (plainElem Tryd.prog 3) _ _ _ (by rfl) Z2.out.map (by unfold maxLen; decide) _ _ (.bool false) (by rfl) (by rfl) (keyOf_bool_mk Tryd.underlying4 false) (.lit (.int .i64 0)) [] (plainElem_int Tryd.underlying3 (by decide)) ?_
            intro w9 hm9 hg9
            have Z2 := Lib.hid (Z2.out.ins hm9 hg9)
            clear hm9 hg9
            refine hK.out _ _ trivial (fun hHeld => ?_)
            clear hHeld hK K
            try simp only [Act.put]
            refine wpAnyT_two (i := 1) (j := 6) (oi := { dst := some 28, op := Go.Op.call { callee := Go.Callee.value (Go.Operand.func 39), args := #[Go.Operand.tmp 27], argTypes := #[48] }, type := 51, pos := "law.go:227", after := #[{ on := 0, ground := Go.Ground.data }], guard := none }) (oj := { dst := none, op := Go.Op.insert 53 (Go.Operand.tmp 32) (Go.Operand.const (Go.Value.bool true)) (Go.Operand.const (Go.Value.int Go.IntKind.i64 2)), type := 0, pos := "law.go:227", after := #[{ on := 5, ground := Go.Ground.data }], guard := none }) (by kernel_rfl) rfl rfl (fun K hK => ?_) (fun K hK => ?_)
            · go_simp
              go_at_call 39
              refine (LiAt.opens Z2.out hS').mono ?_
              rintro e w8 ⟨a8, c8, rfl, hA8⟩
              have Z2 := Lib.hid hA8
              clear hA8
              go_wp2_with fail
              refine hK.out _ _ trivial (fun hHeld => ?_)
              clear hHeld hK K
              try simp only [Act.put, List.setIfInBounds_toArray, List.set_cons_zero, List.set_cons_succ]
              refine wpAnyT_take (i := 2) (oi := { dst := some 29, op := Go.Op.call { callee := Go.Callee.builtin Go.Builtin.len, args := #[Go.Operand.tmp 28], argTypes := #[51] }, type := 3, pos := "law.go:227", after := #[{ on := 1, ground := Go.Ground.data }], guard := none }) (v := ?_) rfl (by kernel_rfl) (by kernel_rfl) (by kernel_rfl) (by kernel_rfl) (fun _ _ _ h => h) (Or.inl ⟨by rfl, ?_⟩) trivial ?_
              rotate_left
              · intro w hSw
                clear hSw
                go_simp
                all_goals (with_reducible rfl)
              try simp only [Act.put, List.setIfInBounds_toArray, List.set_cons_zero, List.set_cons_succ]
              refine wpAnyT_one (i := 6) (o := { dst := none, op := Go.Op.insert 53 (Go.Operand.tmp 32) (Go.Operand.const (Go.Value.bool true)) (Go.Operand.const (Go.Value.int Go.IntKind.i64 2)), type := 0, pos := "law.go:227", after := #[{ on := 5, ground := Go.Ground.data }], guard := none }) (by kernel_rfl) rfl (fun K hK => ?_)
              refine step_insert (H := Unit) (by rfl) _ _ _ 53 (by rfl) 4 3 (bool_keyed Tryd.underlying4) Tryd.underlying53 (plainElem Tryd.prog 3) _ _ _ (by rfl) Z2.out.map (by unfold maxLen; decide) _ _ (.bool true) (by rfl) (by rfl) (keyOf_bool_mk Tryd.underlying4 true) (.lit (.int .i64 2)) [] (plainElem_int Tryd.underlying3 (by decide)) ?_
              intro w9 hm9 hg9
              have Z2 := Lib.hid (Z2.out.ins hm9 hg9)
              clear hm9 hg9
              refine hK.out _ _ trivial (fun hHeld => ?_)
              clear hHeld hK K
              try simp only [Act.put]
              refine wpAnyT_take (i := 8) (oi := { dst := some 33, op := Go.Op.move (Go.Operand.tmp 32), type := 53, pos := "law.go:227", after := #[{ on := 5, ground := Go.Ground.data }, { on := 6, ground := Go.Ground.data }, { on := 7, ground := Go.Ground.data }], guard := none }) (v := ?_) rfl (by kernel_rfl) (by kernel_rfl) (by kernel_rfl) (by kernel_rfl) (fun _ _ _ h => h) (Or.inl ⟨by rfl, ?_⟩) trivial ?_
              rotate_left
              · intro w hSw
                clear hSw
                go_simp
                all_goals (with_reducible rfl)
              try simp only [Act.put, List.setIfInBounds_toArray, List.set_cons_zero, List.set_cons_succ]
              refine wpAnyT_one (i := 12) (o := { dst := some 37, op := Go.Op.lookup 53 (Go.Operand.tmp 33) (Go.Operand.tmp 36) false, type := 3, pos := "law.go:227", after := #[{ on := 8, ground := Go.Ground.data }, { on := 11, ground := Go.Ground.data }], guard := none }) (by kernel_rfl) rfl (fun K hK => ?_)
              refine step_lookup (H := Unit) (by rfl) _ _ 53 (by rfl) 4 3 .i64 (bool_keyed Tryd.underlying4) Tryd.underlying53 Tryd.underlying3 (Tryd.zeroValue3 _) _ _ _ (by rfl) Z2.out.map _ (.bool false) (by rfl) (keyOf_bool_mk Tryd.underlying4 false) 0 (by rfl) ?_
              refine hK.out _ _ trivial (fun hHeld => ?_)
              clear hHeld hK K
              try simp only [Act.put, List.setIfInBounds_toArray, List.set_cons_zero, List.set_cons_succ]
              refine wpAnyT_take (i := 13) (oi := { dst := some 38, op := Go.Op.binOp Go.BinOp.add 3 (Go.Operand.tmp 31) (Go.Operand.tmp 37) 3, type := 3, pos := "law.go:227", after := #[{ on := 4, ground := Go.Ground.data }, { on := 12, ground := Go.Ground.data }], guard := none }) (v := ?_) rfl (by kernel_rfl) (by kernel_rfl) (by kernel_rfl) (by kernel_rfl) (fun _ _ _ h => h) (Or.inl ⟨by rfl, ?_⟩) trivial ?_
              rotate_left
              · intro w hSw
                clear hSw
                go_simp
                all_goals (with_reducible rfl)
              try simp only [Act.put, List.setIfInBounds_toArray, List.set_cons_zero, List.set_cons_succ]
              try simp only [hw]
              try simp only [hw3]
              try simp only [hw2]
              refine wpAnyT_take (i := 14) (oi := { dst := some 39, op := Go.Op.binOp Go.BinOp.eql 3 (Go.Operand.tmp 29) (Go.Operand.tmp 38) 3, type := 4, pos := "law.go:227", after := #[{ on := 2, ground := Go.Ground.data }, { on := 13, ground := Go.Ground.data }], guard := none }) (v := ?_) rfl (by kernel_rfl) (by kernel_rfl) (by kernel_rfl) (by kernel_rfl) (fun _ _ _ h => h) (Or.inl ⟨by rfl, ?_⟩) trivial ?_
              rotate_left
              · intro w hSw
                clear hSw
                go_simp
                all_goals (with_reducible rfl)
              try simp only [Act.put, List.setIfInBounds_toArray, List.set_cons_zero, List.set_cons_succ]
              try simp only [he]
              refine wpAnyT_take (i := 15) (oi := { dst := some 40, op := Go.Op.move (Go.Operand.tmp 39), type := 4, pos := "law.go:227", after := #[{ on := 14, ground := Go.Ground.data }, { on := 1, ground := Go.Ground.chain }], guard := none }) (v := ?_) rfl (by kernel_rfl) (by kernel_rfl) (by kernel_rfl) (by kernel_rfl) (fun _ _ _ h => h) (Or.inl ⟨by rfl, ?_⟩) trivial ?_
              rotate_left
              · intro w hSw
                clear hSw
                go_simp
                all_goals (with_reducible rfl)
              try simp only [Act.put, List.setIfInBounds_toArray, List.set_cons_zero, List.set_cons_succ]
              refine wpAnyT_take (i := 16) (oi := { dst := some 41, op := Go.Op.move (Go.Operand.tmp 6), type := 25, pos := "law.go:227", after := #[{ on := 15, ground := Go.Ground.guard }], guard := some (15, true) }) (v := ?_) rfl (by kernel_rfl) (by kernel_rfl) (by kernel_rfl) (by kernel_rfl) (fun _ _ _ h => h) (Or.inl ⟨by rfl, ?_⟩) trivial ?_
              rotate_left
              · intro w hSw
                clear hSw
                go_simp
                all_goals (with_reducible rfl)
              try simp only [Act.put, List.setIfInBounds_toArray, List.set_cons_zero, List.set_cons_succ]
              refine wpAnyT_take (i := 17) (oi := { dst := some 42, op := Go.Op.binOp Go.BinOp.eql 25 (Go.Operand.tmp 41) (Go.Operand.const (Go.Value.int Go.IntKind.i64 0)) 25, type := 4, pos := "law.go:227", after := #[{ on := 16, ground := Go.Ground.data }, { on := 15, ground := Go.Ground.guard }], guard := some (15, true) }) (v := ?_) rfl (by kernel_rfl) (by kernel_rfl) (by kernel_rfl) (by kernel_rfl) (fun _ _ _ h => h) (Or.inl ⟨by rfl, ?_⟩) trivial ?_
              rotate_left
              · intro w hSw
                clear hSw
                go_simp
                all_goals (with_reducible rfl)
              try simp only [Act.put, List.setIfInBounds_toArray, List.set_cons_zero, List.set_cons_succ]
              refine wpAnyT_take (i := 18) (oi := { dst := some 43, op := Go.Op.move (Go.Operand.tmp 5), type := 3, pos := "law.go:227", after := #[{ on := 15, ground := Go.Ground.guard }], guard := some (15, true) }) (v := ?_) rfl (by kernel_rfl) (by kernel_rfl) (by kernel_rfl) (by kernel_rfl) (fun _ _ _ h => h) (Or.inl ⟨by rfl, ?_⟩) trivial ?_
              rotate_left
              · intro w hSw
                clear hSw
                go_simp
                all_goals (with_reducible rfl)
              try simp only [Act.put, List.setIfInBounds_toArray, List.set_cons_zero, List.set_cons_succ]
              refine wpAnyT_take (i := 19) (oi := { dst := some 44, op := Go.Op.binOp Go.BinOp.add 3 (Go.Operand.tmp 43) (Go.Operand.const (Go.Value.int Go.IntKind.i64 2)) 3, type := 3, pos := "law.go:227", after := #[{ on := 18, ground := Go.Ground.data }, { on := 15, ground := Go.Ground.guard }], guard := some (15, true) }) (v := ?_) rfl (by kernel_rfl) (by kernel_rfl) (by kernel_rfl) (by kernel_rfl) (fun _ _ _ h => h) (Or.inl ⟨by rfl, ?_⟩) trivial ?_
              rotate_left
              · intro w hSw
                clear hSw
                go_simp
                all_goals (with_reducible rfl)
              try simp only [Act.put, List.setIfInBounds_toArray, List.set_cons_zero, List.set_cons_succ]
              refine wpAnyT_take (i := 20) (oi := { dst := some 45, op := Go.Op.binOp Go.BinOp.leq 3 (Go.Operand.tmp 44) (Go.Operand.const (Go.Value.int Go.IntKind.i64 400)) 3, type := 4, pos := "law.go:227", after := #[{ on := 19, ground := Go.Ground.data }, { on := 15, ground := Go.Ground.guard }], guard := some (15, true) }) (v := ?_) rfl (by kernel_rfl) (by kernel_rfl) (by kernel_rfl) (by kernel_rfl) (fun _ _ _ h => h) (Or.inl ⟨by rfl, ?_⟩) trivial ?_
              rotate_left
              · intro w hSw
                clear hSw
                go_simp
                all_goals (with_reducible rfl)
              try simp only [Act.put, List.setIfInBounds_toArray, List.set_cons_zero, List.set_cons_succ]
              refine wpAnyT_take (i := 21) (oi := { dst := some 46, op := Go.Op.binOp Go.BinOp.eql 4 (Go.Operand.tmp 42) (Go.Operand.tmp 45) 4, type := 4, pos := "law.go:227", after := #[{ on := 17, ground := Go.Ground.data }, { on := 20, ground := Go.Ground.data }, { on := 15, ground := Go.Ground.guard }], guard := some (15, true) }) (v := ?_) rfl (by kernel_rfl) (by kernel_rfl) (by kernel_rfl) (by kernel_rfl) (fun _ _ _ h => h) (Or.inl ⟨by rfl, ?_⟩) trivial ?_
              rotate_left
              · intro w hSw
                clear hSw
                go_simp
                all_goals (with_reducible rfl)
              try simp only [Act.put, List.setIfInBounds_toArray, List.set_cons_zero, List.set_cons_succ]
              refine wpAnyT_take (i := 22) (oi := { dst := some 47, op := Go.Op.pick (Go.Operand.tmp 40) (Go.Operand.tmp 46) (Go.Operand.const (Go.Value.bool false)), type := 4, pos := "law.go:227", after := #[{ on := 15, ground := Go.Ground.data }, { on := 21, ground := Go.Ground.data }], guard := none }) (v := ?_) rfl (by kernel_rfl) (by kernel_rfl) (by kernel_rfl) (by kernel_rfl) (fun _ _ _ h => h) (Or.inl ⟨by rfl, ?_⟩) trivial ?_
              rotate_left
              · intro w hSw
                clear hSw
                go_simp
                all_goals (with_reducible rfl)
              try simp only [Act.put, List.setIfInBounds_toArray, List.set_cons_zero, List.set_cons_succ]
              refine wpAnyT_take (i := 23) (oi := { dst := some 2, op := Go.Op.assign (Go.Operand.tmp 47), type := 4, pos := "law.go:227", after := #[{ on := 22, ground := Go.Ground.data }, { on := 15, ground := Go.Ground.chain }, { on := 0, ground := Go.Ground.phase }, { on := 1, ground := Go.Ground.phase }, { on := 2, ground := Go.Ground.phase }, { on := 3, ground := Go.Ground.phase }, { on := 4, ground := Go.Ground.phase }, { on := 5, ground := Go.Ground.phase }, { on := 6, ground := Go.Ground.phase }, { on := 7, ground := Go.Ground.phase }, { on := 8, ground := Go.Ground.phase }, { on := 9, ground := Go.Ground.phase }, { on := 10, ground := Go.Ground.phase }, { on := 11, ground := Go.Ground.phase }, { on := 12, ground := Go.Ground.phase }, { on := 13, ground := Go.Ground.phase }, { on := 14, ground := Go.Ground.phase }, { on := 15, ground := Go.Ground.phase }, { on := 16, ground := Go.Ground.phase }, { on := 17, ground := Go.Ground.phase }, { on := 18, ground := Go.Ground.phase }, { on := 19, ground := Go.Ground.phase }, { on := 20, ground := Go.Ground.phase }, { on := 21, ground := Go.Ground.phase }, { on := 22, ground := Go.Ground.phase }], guard := none }) (v := ?_) rfl (by kernel_rfl) (by kernel_rfl) (by kernel_rfl) (by kernel_rfl) (fun _ _ _ h => h) (Or.inl ⟨by rfl, ?_⟩) trivial ?_
              rotate_left
              · intro w hSw
                clear hSw
                go_simp
                all_goals (with_reducible rfl)
              try simp only [Act.put, List.setIfInBounds_toArray, List.set_cons_zero, List.set_cons_succ]
              refine wpAnyT_done (by kernel_rfl) ?_ _
              go_wp2_with fail
              go_ret
              exact ⟨rfl, Z2.out.dn⟩
            · refine step_insert (H := Unit) (by rfl) _ _ _ 53 (by rfl) 4 3 (bool_keyed Tryd.underlying4) Tryd.underlying53 (plainElem Tryd.prog 3) _ _ _ (by rfl) Z2.out.map (by unfold maxLen; decide) _ _ (.bool true) (by rfl) (by rfl) (keyOf_bool_mk Tryd.underlying4 true) (.lit (.int .i64 2)) [] (plainElem_int Tryd.underlying3 (by decide)) ?_
              intro w9 hm9 hg9
              have Z2 := Lib.hid (Z2.out.ins hm9 hg9)
              clear hm9 hg9
              refine hK.out _ _ trivial (fun hHeld => ?_)
              clear hHeld hK K
              try simp only [Act.put]
              refine wpAnyT_take (i := 8) (oi := { dst := some 33, op := Go.Op.move (Go.Operand.tmp 32), type := 53, pos := "law.go:227", after := #[{ on := 5, ground := Go.Ground.data }, { on := 6, ground := Go.Ground.data }, { on := 7, ground := Go.Ground.data }], guard := none }) (v := ?_) rfl (by kernel_rfl) (by kernel_rfl) (by kernel_rfl) (by kernel_rfl) (fun _ _ _ h => h) (Or.inl ⟨by rfl, ?_⟩) trivial ?_
              rotate_left
              · intro w hSw
                clear hSw
                go_simp
                all_goals (with_reducible rfl)
              try simp only [Act.put, List.setIfInBounds_toArray, List.set_cons_zero, List.set_cons_succ]
              refine wpAnyT_two (i := 1) (j := 12) (oi := { dst := some 28, op := Go.Op.call { callee := Go.Callee.value (Go.Operand.func 39), args := #[Go.Operand.tmp 27], argTypes := #[48] }, type := 51, pos := "law.go:227", after := #[{ on := 0, ground := Go.Ground.data }], guard := none }) (oj := { dst := some 37, op := Go.Op.lookup 53 (Go.Operand.tmp 33) (Go.Operand.tmp 36) false, type := 3, pos := "law.go:227", after := #[{ on := 8, ground := Go.Ground.data }, { on := 11, ground := Go.Ground.data }], guard := none }) (by kernel_rfl) rfl rfl (fun K hK => ?_) (fun K hK => ?_)
              · go_simp
                go_at_call 39
                refine (LiAt.opens Z2.out hS').mono ?_
                rintro e w8 ⟨a8, c8, rfl, hA8⟩
                have Z2 := Lib.hid hA8
                clear hA8
                go_wp2_with fail
                refine hK.out _ _ trivial (fun hHeld => ?_)
                clear hHeld hK K
                try simp only [Act.put, List.setIfInBounds_toArray, List.set_cons_zero, List.set_cons_succ]
                refine wpAnyT_take (i := 2) (oi := { dst := some 29, op := Go.Op.call { callee := Go.Callee.builtin Go.Builtin.len, args := #[Go.Operand.tmp 28], argTypes := #[51] }, type := 3, pos := "law.go:227", after := #[{ on := 1, ground := Go.Ground.data }], guard := none }) (v := ?_) rfl (by kernel_rfl) (by kernel_rfl) (by kernel_rfl) (by kernel_rfl) (fun _ _ _ h => h) (Or.inl ⟨by rfl, ?_⟩) trivial ?_
                rotate_left
                · intro w hSw
                  clear hSw
                  go_simp
                  all_goals (with_reducible rfl)
                try simp only [Act.put, List.setIfInBounds_toArray, List.set_cons_zero, List.set_cons_succ]
                refine wpAnyT_one (i := 12) (o := { dst := some 37, op := Go.Op.lookup 53 (Go.Operand.tmp 33) (Go.Operand.tmp 36) false, type := 3, pos := "law.go:227", after := #[{ on := 8, ground := Go.Ground.data }, { on := 11, ground := Go.Ground.data }], guard := none }) (by kernel_rfl) rfl (fun K hK => ?_)
                refine step_lookup (H := Unit) (by rfl) _ _ 53 (by rfl) 4 3 .i64 (bool_keyed Tryd.underlying4) Tryd.underlying53 Tryd.underlying3 (Tryd.zeroValue3 _) _ _ _ (by rfl) Z2.out.map _ (.bool false) (by rfl) (keyOf_bool_mk Tryd.underlying4 false) 0 (by rfl) ?_
                refine hK.out _ _ trivial (fun hHeld => ?_)
                clear hHeld hK K
                try simp only [Act.put, List.setIfInBounds_toArray, List.set_cons_zero, List.set_cons_succ]
                refine wpAnyT_take (i := 13) (oi := { dst := some 38, op := Go.Op.binOp Go.BinOp.add 3 (Go.Operand.tmp 31) (Go.Operand.tmp 37) 3, type := 3, pos := "law.go:227", after := #[{ on := 4, ground := Go.Ground.data }, { on := 12, ground := Go.Ground.data }], guard := none }) (v := ?_) rfl (by kernel_rfl) (by kernel_rfl) (by kernel_rfl) (by kernel_rfl) (fun _ _ _ h => h) (Or.inl ⟨by rfl, ?_⟩) trivial ?_
                rotate_left
                · intro w hSw
                  clear hSw
                  go_simp
                  all_goals (with_reducible rfl)
                try simp only [Act.put, List.setIfInBounds_toArray, List.set_cons_zero, List.set_cons_succ]
                try simp only [hw]
                try simp only [hw3]
                try simp only [hw2]
                refine wpAnyT_take (i := 14) (oi := { dst := some 39, op := Go.Op.binOp Go.BinOp.eql 3 (Go.Operand.tmp 29) (Go.Operand.tmp 38) 3, type := 4, pos := "law.go:227", after := #[{ on := 2, ground := Go.Ground.data }, { on := 13, ground := Go.Ground.data }], guard := none }) (v := ?_) rfl (by kernel_rfl) (by kernel_rfl) (by kernel_rfl) (by kernel_rfl) (fun _ _ _ h => h) (Or.inl ⟨by rfl, ?_⟩) trivial ?_
                rotate_left
                · intro w hSw
                  clear hSw
                  go_simp
                  all_goals (with_reducible rfl)
                try simp only [Act.put, List.setIfInBounds_toArray, List.set_cons_zero, List.set_cons_succ]
                try simp only [he]
                refine wpAnyT_take (i := 15) (oi := { dst := some 40, op := Go.Op.move (Go.Operand.tmp 39), type := 4, pos := "law.go:227", after := #[{ on := 14, ground := Go.Ground.data }, { on := 1, ground := Go.Ground.chain }], guard := none }) (v := ?_) rfl (by kernel_rfl) (by kernel_rfl) (by kernel_rfl) (by kernel_rfl) (fun _ _ _ h => h) (Or.inl ⟨by rfl, ?_⟩) trivial ?_
                rotate_left
                · intro w hSw
                  clear hSw
                  go_simp
                  all_goals (with_reducible rfl)
                try simp only [Act.put, List.setIfInBounds_toArray, List.set_cons_zero, List.set_cons_succ]
                refine wpAnyT_take (i := 16) (oi := { dst := some 41, op := Go.Op.move (Go.Operand.tmp 6), type := 25, pos := "law.go:227", after := #[{ on := 15, ground := Go.Ground.guard }], guard := some (15, true) }) (v := ?_) rfl (by kernel_rfl) (by kernel_rfl) (by kernel_rfl) (by kernel_rfl) (fun _ _ _ h => h) (Or.inl ⟨by rfl, ?_⟩) trivial ?_
                rotate_left
                · intro w hSw
                  clear hSw
                  go_simp
                  all_goals (with_reducible rfl)
                try simp only [Act.put, List.setIfInBounds_toArray, List.set_cons_zero, List.set_cons_succ]
                refine wpAnyT_take (i := 17) (oi := { dst := some 42, op := Go.Op.binOp Go.BinOp.eql 25 (Go.Operand.tmp 41) (Go.Operand.const (Go.Value.int Go.IntKind.i64 0)) 25, type := 4, pos := "law.go:227", after := #[{ on := 16, ground := Go.Ground.data }, { on := 15, ground := Go.Ground.guard }], guard := some (15, true) }) (v := ?_) rfl (by kernel_rfl) (by kernel_rfl) (by kernel_rfl) (by kernel_rfl) (fun _ _ _ h => h) (Or.inl ⟨by rfl, ?_⟩) trivial ?_
                rotate_left
                · intro w hSw
                  clear hSw
                  go_simp
                  all_goals (with_reducible rfl)
                try simp only [Act.put, List.setIfInBounds_toArray, List.set_cons_zero, List.set_cons_succ]
                refine wpAnyT_take (i := 18) (oi := { dst := some 43, op := Go.Op.move (Go.Operand.tmp 5), type := 3, pos := "law.go:227", after := #[{ on := 15, ground := Go.Ground.guard }], guard := some (15, true) }) (v := ?_) rfl (by kernel_rfl) (by kernel_rfl) (by kernel_rfl) (by kernel_rfl) (fun _ _ _ h => h) (Or.inl ⟨by rfl, ?_⟩) trivial ?_
                rotate_left
                · intro w hSw
                  clear hSw
                  go_simp
                  all_goals (with_reducible rfl)
                try simp only [Act.put, List.setIfInBounds_toArray, List.set_cons_zero, List.set_cons_succ]
                refine wpAnyT_take (i := 19) (oi := { dst := some 44, op := Go.Op.binOp Go.BinOp.add 3 (Go.Operand.tmp 43) (Go.Operand.const (Go.Value.int Go.IntKind.i64 2)) 3, type := 3, pos := "law.go:227", after := #[{ on := 18, ground := Go.Ground.data }, { on := 15, ground := Go.Ground.guard }], guard := some (15, true) }) (v := ?_) rfl (by kernel_rfl) (by kernel_rfl) (by kernel_rfl) (by kernel_rfl) (fun _ _ _ h => h) (Or.inl ⟨by rfl, ?_⟩) trivial ?_
                rotate_left
                · intro w hSw
                  clear hSw
                  go_simp
                  all_goals (with_reducible rfl)
                try simp only [Act.put, List.setIfInBounds_toArray, List.set_cons_zero, List.set_cons_succ]
                refine wpAnyT_take (i := 20) (oi := { dst := some 45, op := Go.Op.binOp Go.BinOp.leq 3 (Go.Operand.tmp 44) (Go.Operand.const (Go.Value.int Go.IntKind.i64 400)) 3, type := 4, pos := "law.go:227", after := #[{ on := 19, ground := Go.Ground.data }, { on := 15, ground := Go.Ground.guard }], guard := some (15, true) }) (v := ?_) rfl (by kernel_rfl) (by kernel_rfl) (by kernel_rfl) (by kernel_rfl) (fun _ _ _ h => h) (Or.inl ⟨by rfl, ?_⟩) trivial ?_
                rotate_left
                · intro w hSw
                  clear hSw
                  go_simp
                  all_goals (with_reducible rfl)
                try simp only [Act.put, List.setIfInBounds_toArray, List.set_cons_zero, List.set_cons_succ]
                refine wpAnyT_take (i := 21) (oi := { dst := some 46, op := Go.Op.binOp Go.BinOp.eql 4 (Go.Operand.tmp 42) (Go.Operand.tmp 45) 4, type := 4, pos := "law.go:227", after := #[{ on := 17, ground := Go.Ground.data }, { on := 20, ground := Go.Ground.data }, { on := 15, ground := Go.Ground.guard }], guard := some (15, true) }) (v := ?_) rfl (by kernel_rfl) (by kernel_rfl) (by kernel_rfl) (by kernel_rfl) (fun _ _ _ h => h) (Or.inl ⟨by rfl, ?_⟩) trivial ?_
                rotate_left
                · intro w hSw
                  clear hSw
                  go_simp
                  all_goals (with_reducible rfl)
                try simp only [Act.put, List.setIfInBounds_toArray, List.set_cons_zero, List.set_cons_succ]
                refine wpAnyT_take (i := 22) (oi := { dst := some 47, op := Go.Op.pick (Go.Operand.tmp 40) (Go.Operand.tmp 46) (Go.Operand.const (Go.Value.bool false)), type := 4, pos := "law.go:227", after := #[{ on := 15, ground := Go.Ground.data }, { on := 21, ground := Go.Ground.data }], guard := none }) (v := ?_) rfl (by kernel_rfl) (by kernel_rfl) (by kernel_rfl) (by kernel_rfl) (fun _ _ _ h => h) (Or.inl ⟨by rfl, ?_⟩) trivial ?_
                rotate_left
                · intro w hSw
                  clear hSw
                  go_simp
                  all_goals (with_reducible rfl)
                try simp only [Act.put, List.setIfInBounds_toArray, List.set_cons_zero, List.set_cons_succ]
                refine wpAnyT_take (i := 23) (oi := { dst := some 2, op := Go.Op.assign (Go.Operand.tmp 47), type := 4, pos := "law.go:227", after := #[{ on := 22, ground := Go.Ground.data }, { on := 15, ground := Go.Ground.chain }, { on := 0, ground := Go.Ground.phase }, { on := 1, ground := Go.Ground.phase }, { on := 2, ground := Go.Ground.phase }, { on := 3, ground := Go.Ground.phase }, { on := 4, ground := Go.Ground.phase }, { on := 5, ground := Go.Ground.phase }, { on := 6, ground := Go.Ground.phase }, { on := 7, ground := Go.Ground.phase }, { on := 8, ground := Go.Ground.phase }, { on := 9, ground := Go.Ground.phase }, { on := 10, ground := Go.Ground.phase }, { on := 11, ground := Go.Ground.phase }, { on := 12, ground := Go.Ground.phase }, { on := 13, ground := Go.Ground.phase }, { on := 14, ground := Go.Ground.phase }, { on := 15, ground := Go.Ground.phase }, { on := 16, ground := Go.Ground.phase }, { on := 17, ground := Go.Ground.phase }, { on := 18, ground := Go.Ground.phase }, { on := 19, ground := Go.Ground.phase }, { on := 20, ground := Go.Ground.phase }, { on := 21, ground := Go.Ground.phase }, { on := 22, ground := Go.Ground.phase }], guard := none }) (v := ?_) rfl (by kernel_rfl) (by kernel_rfl) (by kernel_rfl) (by kernel_rfl) (fun _ _ _ h => h) (Or.inl ⟨by rfl, ?_⟩) trivial ?_
                rotate_left
                · intro w hSw
                  clear hSw
                  go_simp
                  all_goals (with_reducible rfl)
                try simp only [Act.put, List.setIfInBounds_toArray, List.set_cons_zero, List.set_cons_succ]
                refine wpAnyT_done (by kernel_rfl) ?_ _
                go_wp2_with fail
                go_ret
                exact ⟨rfl, Z2.out.dn⟩
              · refine step_lookup (H := Unit) (by rfl) _ _ 53 (by rfl) 4 3 .i64 (bool_keyed Tryd.underlying4) Tryd.underlying53 Tryd.underlying3 (Tryd.zeroValue3 _) _ _ _ (by rfl) Z2.out.map _ (.bool false) (by rfl) (keyOf_bool_mk Tryd.underlying4 false) 0 (by rfl) ?_
                refine hK.out _ _ trivial (fun hHeld => ?_)
                clear hHeld hK K
                try simp only [Act.put, List.setIfInBounds_toArray, List.set_cons_zero, List.set_cons_succ]
                refine wpAnyT_take (i := 13) (oi := { dst := some 38, op := Go.Op.binOp Go.BinOp.add 3 (Go.Operand.tmp 31) (Go.Operand.tmp 37) 3, type := 3, pos := "law.go:227", after := #[{ on := 4, ground := Go.Ground.data }, { on := 12, ground := Go.Ground.data }], guard := none }) (v := ?_) rfl (by kernel_rfl) (by kernel_rfl) (by kernel_rfl) (by kernel_rfl) (fun _ _ _ h => h) (Or.inl ⟨by rfl, ?_⟩) trivial ?_
                rotate_left
                · intro w hSw
                  clear hSw
                  go_simp
                  all_goals (with_reducible rfl)
                try simp only [Act.put, List.setIfInBounds_toArray, List.set_cons_zero, List.set_cons_succ]
                try simp only [hw]
                try simp only [hw3]
                try simp only [hw2]
                refine wpAnyT_one (i := 1) (o := { dst := some 28, op := Go.Op.call { callee := Go.Callee.value (Go.Operand.func 39), args := #[Go.Operand.tmp 27], argTypes := #[48] }, type := 51, pos := "law.go:227", after := #[{ on := 0, ground := Go.Ground.data }], guard := none }) (by kernel_rfl) rfl (fun K hK => ?_)
                go_simp
                go_at_call 39
                refine (LiAt.opens Z2.out hS').mono ?_
                rintro e w8 ⟨a8, c8, rfl, hA8⟩
                have Z2 := Lib.hid hA8
                clear hA8
                go_wp2_with fail
                refine hK.out _ _ trivial (fun hHeld => ?_)
                clear hHeld hK K
                try simp only [Act.put, List.setIfInBounds_toArray, List.set_cons_zero, List.set_cons_succ]
                refine wpAnyT_take (i := 2) (oi := { dst := some 29, op := Go.Op.call { callee := Go.Callee.builtin Go.Builtin.len, args := #[Go.Operand.tmp 28], argTypes := #[51] }, type := 3, pos := "law.go:227", after := #[{ on := 1, ground := Go.Ground.data }], guard := none }) (v := ?_) rfl (by kernel_rfl) (by kernel_rfl) (by kernel_rfl) (by kernel_rfl) (fun _ _ _ h => h) (Or.inl ⟨by rfl, ?_⟩) trivial ?_
                rotate_left
                · intro w hSw
                  clear hSw
                  go_simp
                  all_goals (with_reducible rfl)
                try simp only [Act.put, List.setIfInBounds_toArray, List.set_cons_zero, List.set_cons_succ]
                refine wpAnyT_take (i := 14) (oi := { dst := some 39, op := Go.Op.binOp Go.BinOp.eql 3 (Go.Operand.tmp 29) (Go.Operand.tmp 38) 3, type := 4, pos := "law.go:227", after := #[{ on := 2, ground := Go.Ground.data }, { on := 13, ground := Go.Ground.data }], guard := none }) (v := ?_) rfl (by kernel_rfl) (by kernel_rfl) (by kernel_rfl) (by kernel_rfl) (fun _ _ _ h => h) (Or.inl ⟨by rfl, ?_⟩) trivial ?_
                rotate_left
                · intro w hSw
                  clear hSw
                  go_simp
                  all_goals (with_reducible rfl)
                try simp only [Act.put, List.setIfInBounds_toArray, List.set_cons_zero, List.set_cons_succ]
                try simp only [he]
                refine wpAnyT_take (i := 15) (oi := { dst := some 40, op := Go.Op.move (Go.Operand.tmp 39), type := 4, pos := "law.go:227", after := #[{ on := 14, ground := Go.Ground.data }, { on := 1, ground := Go.Ground.chain }], guard := none }) (v := ?_) rfl (by kernel_rfl) (by kernel_rfl) (by kernel_rfl) (by kernel_rfl) (fun _ _ _ h => h) (Or.inl ⟨by rfl, ?_⟩) trivial ?_
                rotate_left
                · intro w hSw
                  clear hSw
                  go_simp
                  all_goals (with_reducible rfl)
                try simp only [Act.put, List.setIfInBounds_toArray, List.set_cons_zero, List.set_cons_succ]
                refine wpAnyT_take (i := 16) (oi := { dst := some 41, op := Go.Op.move (Go.Operand.tmp 6), type := 25, pos := "law.go:227", after := #[{ on := 15, ground := Go.Ground.guard }], guard := some (15, true) }) (v := ?_) rfl (by kernel_rfl) (by kernel_rfl) (by kernel_rfl) (by kernel_rfl) (fun _ _ _ h => h) (Or.inl ⟨by rfl, ?_⟩) trivial ?_
                rotate_left
                · intro w hSw
                  clear hSw
                  go_simp
                  all_goals (with_reducible rfl)
                try simp only [Act.put, List.setIfInBounds_toArray, List.set_cons_zero, List.set_cons_succ]
                refine wpAnyT_take (i := 17) (oi := { dst := some 42, op := Go.Op.binOp Go.BinOp.eql 25 (Go.Operand.tmp 41) (Go.Operand.const (Go.Value.int Go.IntKind.i64 0)) 25, type := 4, pos := "law.go:227", after := #[{ on := 16, ground := Go.Ground.data }, { on := 15, ground := Go.Ground.guard }], guard := some (15, true) }) (v := ?_) rfl (by kernel_rfl) (by kernel_rfl) (by kernel_rfl) (by kernel_rfl) (fun _ _ _ h => h) (Or.inl ⟨by rfl, ?_⟩) trivial ?_
                rotate_left
                · intro w hSw
                  clear hSw
                  go_simp
                  all_goals (with_reducible rfl)
                try simp only [Act.put, List.setIfInBounds_toArray, List.set_cons_zero, List.set_cons_succ]
                refine wpAnyT_take (i := 18) (oi := { dst := some 43, op := Go.Op.move (Go.Operand.tmp 5), type := 3, pos := "law.go:227", after := #[{ on := 15, ground := Go.Ground.guard }], guard := some (15, true) }) (v := ?_) rfl (by kernel_rfl) (by kernel_rfl) (by kernel_rfl) (by kernel_rfl) (fun _ _ _ h => h) (Or.inl ⟨by rfl, ?_⟩) trivial ?_
                rotate_left
                · intro w hSw
                  clear hSw
                  go_simp
                  all_goals (with_reducible rfl)
                try simp only [Act.put, List.setIfInBounds_toArray, List.set_cons_zero, List.set_cons_succ]
                refine wpAnyT_take (i := 19) (oi := { dst := some 44, op := Go.Op.binOp Go.BinOp.add 3 (Go.Operand.tmp 43) (Go.Operand.const (Go.Value.int Go.IntKind.i64 2)) 3, type := 3, pos := "law.go:227", after := #[{ on := 18, ground := Go.Ground.data }, { on := 15, ground := Go.Ground.guard }], guard := some (15, true) }) (v := ?_) rfl (by kernel_rfl) (by kernel_rfl) (by kernel_rfl) (by kernel_rfl) (fun _ _ _ h => h) (Or.inl ⟨by rfl, ?_⟩) trivial ?_
                rotate_left
                · intro w hSw
                  clear hSw
                  go_simp
                  all_goals (with_reducible rfl)
                try simp only [Act.put, List.setIfInBounds_toArray, List.set_cons_zero, List.set_cons_succ]
                refine wpAnyT_take (i := 20) (oi := { dst := some 45, op := Go.Op.binOp Go.BinOp.leq 3 (Go.Operand.tmp 44) (Go.Operand.const (Go.Value.int Go.IntKind.i64 400)) 3, type := 4, pos := "law.go:227", after := #[{ on := 19, ground := Go.Ground.data }, { on := 15, ground := Go.Ground.guard }], guard := some (15, true) }) (v := ?_) rfl (by kernel_rfl) (by kernel_rfl) (by kernel_rfl) (by kernel_rfl) (fun _ _ _ h => h) (Or.inl ⟨by rfl, ?_⟩) trivial ?_
                rotate_left
                · intro w hSw
                  clear hSw
                  go_simp
                  all_goals (with_reducible rfl)
                try simp only [Act.put, List.setIfInBounds_toArray, List.set_cons_zero, List.set_cons_succ]
                refine wpAnyT_take (i := 21) (oi := { dst := some 46, op := Go.Op.binOp Go.BinOp.eql 4 (Go.Operand.tmp 42) (Go.Operand.tmp 45) 4, type := 4, pos := "law.go:227", after := #[{ on := 17, ground := Go.Ground.data }, { on := 20, ground := Go.Ground.data }, { on := 15, ground := Go.Ground.guard }], guard := some (15, true) }) (v := ?_) rfl (by kernel_rfl) (by kernel_rfl) (by kernel_rfl) (by kernel_rfl) (fun _ _ _ h => h) (Or.inl ⟨by rfl, ?_⟩) trivial ?_
                rotate_left
                · intro w hSw
                  clear hSw
                  go_simp
                  all_goals (with_reducible rfl)
                try simp only [Act.put, List.setIfInBounds_toArray, List.set_cons_zero, List.set_cons_succ]
                refine wpAnyT_take (i := 22) (oi := { dst := some 47, op := Go.Op.pick (Go.Operand.tmp 40) (Go.Operand.tmp 46) (Go.Operand.const (Go.Value.bool false)), type := 4, pos := "law.go:227", after := #[{ on := 15, ground := Go.Ground.data }, { on := 21, ground := Go.Ground.data }], guard := none }) (v := ?_) rfl (by kernel_rfl) (by kernel_rfl) (by kernel_rfl) (by kernel_rfl) (fun _ _ _ h => h) (Or.inl ⟨by rfl, ?_⟩) trivial ?_
                rotate_left
                · intro w hSw
                  clear hSw
                  go_simp
                  all_goals (with_reducible rfl)
                try simp only [Act.put, List.setIfInBounds_toArray, List.set_cons_zero, List.set_cons_succ]
                refine wpAnyT_take (i := 23) (oi := { dst := some 2, op := Go.Op.assign (Go.Operand.tmp 47), type := 4, pos := "law.go:227", after := #[{ on := 22, ground := Go.Ground.data }, { on := 15, ground := Go.Ground.chain }, { on := 0, ground := Go.Ground.phase }, { on := 1, ground := Go.Ground.phase }, { on := 2, ground := Go.Ground.phase }, { on := 3, ground := Go.Ground.phase }, { on := 4, ground := Go.Ground.phase }, { on := 5, ground := Go.Ground.phase }, { on := 6, ground := Go.Ground.phase }, { on := 7, ground := Go.Ground.phase }, { on := 8, ground := Go.Ground.phase }, { on := 9, ground := Go.Ground.phase }, { on := 10, ground := Go.Ground.phase }, { on := 11, ground := Go.Ground.phase }, { on := 12, ground := Go.Ground.phase }, { on := 13, ground := Go.Ground.phase }, { on := 14, ground := Go.Ground.phase }, { on := 15, ground := Go.Ground.phase }, { on := 16, ground := Go.Ground.phase }, { on := 17, ground := Go.Ground.phase }, { on := 18, ground := Go.Ground.phase }, { on := 19, ground := Go.Ground.phase }, { on := 20, ground := Go.Ground.phase }, { on := 21, ground := Go.Ground.phase }, { on := 22, ground := Go.Ground.phase }], guard := none }) (v := ?_) rfl (by kernel_rfl) (by kernel_rfl) (by kernel_rfl) (by kernel_rfl) (fun _ _ _ h => h) (Or.inl ⟨by rfl, ?_⟩) trivial ?_
                rotate_left
                · intro w hSw
                  clear hSw
                  go_simp
                  all_goals (with_reducible rfl)
                try simp only [Act.put, List.setIfInBounds_toArray, List.set_cons_zero, List.set_cons_succ]
                refine wpAnyT_done (by kernel_rfl) ?_ _
                go_wp2_with fail
                go_ret
                exact ⟨rfl, Z2.out.dn⟩
end Go.Proofs.YtheemefggkcfbaaDoor
