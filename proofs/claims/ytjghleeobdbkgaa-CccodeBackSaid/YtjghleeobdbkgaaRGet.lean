/- The code of a pair in the reference, walked. -/
import Derived.Test.YtjghleeobdbkgaaEvery
namespace Go.Proofs.Ytjghleeobdbkgaa
open Go.RowKit Pl
set_option linter.unusedVariables false
def rhit (one two r : Int) : Prop := one = fst1 r ∧ (two = ofs r + 16 ∨ two = ofs r + 17)
theorem rowL_hit {one two k : Int} (h0 : 0 ≤ k) (h15 : k < 15) (hm : ∀ j : Int, 0 ≤ j → j < k → ¬ rhit one two j) (hk : rhit one two k) : rowL one two rows15 = some (1, k, 0, 0, false, two == ofs k + 17) := by
  have a0 := hm 0 (by omega); have a1 := hm 1 (by omega); have a2 := hm 2 (by omega); have a3 := hm 3 (by omega); have a4 := hm 4 (by omega); have a5 := hm 5 (by omega); have a6 := hm 6 (by omega); have a7 := hm 7 (by omega)
  have a8 := hm 8 (by omega); have a9 := hm 9 (by omega); have a10 := hm 10 (by omega); have a11 := hm 11 (by omega); have a12 := hm 12 (by omega); have a13 := hm 13 (by omega)
  unfold rhit at *
  rcases row_cases h0 h15 with rfl | rfl | rfl | rfl | rfl | rfl | rfl | rfl | rfl | rfl | rfl | rfl | rfl | rfl | rfl
  all_goals (unfold rows15 rowL; repeat (first | rw [if_pos hk] | (rw [if_neg (by first | exact a0 (by decide) | exact a1 (by decide) | exact a2 (by decide) | exact a3 (by decide) | exact a4 (by decide) | exact a5 (by decide) | exact a6 (by decide) | exact a7 (by decide) | exact a8 (by decide) | exact a9 (by decide) | exact a10 (by decide) | exact a11 (by decide) | exact a12 (by decide) | exact a13 (by decide))]; unfold rowL)))
theorem rowL_none {one two : Int} (hm : ∀ j : Int, 0 ≤ j → j < 15 → ¬ rhit one two j) : rowL one two rows15 = none := by
  have a : ∀ l : List Int, (∀ j, j ∈ l → ¬ rhit one two j) → rowL one two l = none := by
    intro l
    induction l with
    | nil => intro _; rfl
    | cons r l ih =>
      intro h
      have h0 : ¬ (one = fst1 r ∧ (two = ofs r + 16 ∨ two = ofs r + 17)) := h r (by simp)
      unfold rowL; rw [if_neg h0]; exact ih fun j hj => h j (by simp [hj])
  refine a _ fun j hj => ?_
  have : 0 ≤ j ∧ j < 15 := by
    have : (rows15.all fun j => decide (0 ≤ j ∧ j < 15)) = true := by decide
    simpa using List.all_eq_true.1 this j hj
  exact hm j this.1 this.2
def ehit (one two : Int) (x : Cd) : Prop := (Pl.put x).1 = one ∧ (Pl.put x).2.1 = two
theorem evL_hit {one two : Int} : ∀ (l : List Cd) (j : Nat) (h : j < l.length), (∀ i (hi : i < j), ¬ ehit one two (l[i]'(by omega))) → ehit one two l[j] → evL one two l = some l[j] := by
  intro l
  induction l with
  | nil => intro j h; cases h
  | cons x l ih =>
    intro j h hm hk
    unfold evL
    cases j with
    | zero =>
      have h0 : (Pl.put x).1 = one ∧ (Pl.put x).2.1 = two := hk
      rw [if_pos h0]; rfl
    | succ j =>
      have h0 : ¬ ((Pl.put x).1 = one ∧ (Pl.put x).2.1 = two) := hm 0 (by omega)
      rw [if_neg h0]
      exact ih j (by simpa using h) (fun i hi => hm (i + 1) (by omega)) hk
theorem evL_none {one two : Int} : ∀ (l : List Cd), (∀ i (hi : i < l.length), ¬ ehit one two l[i]) → evL one two l = none := by
  intro l
  induction l with
  | nil => intro _; rfl
  | cons x l ih =>
    intro hm
    have h0 : ¬ ((Pl.put x).1 = one ∧ (Pl.put x).2.1 = two) := hm 0 (by simp)
    unfold evL; rw [if_neg h0]; exact ih fun i hi => hm (i + 1) (by simp; omega)
theorem ev_len : ev.length = 480 := by decide +kernel
theorem ev_col : ∀ j (h : j < ev.length), 0 ≤ ev[j].2.2.2.1 := by
  have : (ev.all fun x => decide (0 ≤ x.2.2.2.1)) = true := by decide +kernel
  intro j h
  simpa using List.all_eq_true.1 this ev[j] (List.getElem_mem h)
 
set_option maxRecDepth 100000 in
set_option maxHeartbeats 2000000 in
theorem rget_any (one two : Int) (h1 : 0 ≤ one) (h2 : 0 ≤ two) (h3 : two ≤ 255) (w : World) :
    Calls Try.prog 17 #[.int .u8 one, .int .u8 two] w fun e w' => e = .returned (getV (rget one two)) ∧ Below w.heap.size w w' := by
  go_enter Try.func17, Try.ntmps17
  go_wp2_with fail
  have R0 := Row6.new w (.int .u8 0) (.int .i64 0) (.int .i64 0) (.int .u8 0) (.bool false) (.bool false) 26
  have hB0 := below1 (w := w) (.cells #[.int .u8 0, .int .i64 0, .int .i64 0, .int .u8 0, .bool false, .bool false] 26) (Nat.le_refl w.heap.size)
  go_loopw [14] (fun i wr => ∃ k : Int, 0 ≤ k ∧ k ≤ 15 ∧ i = .int .i64 k ∧ Hid (∀ j : Int, 0 ≤ j → j < k → ¬ rhit one two j) ∧ Row6 wr w.heap.size (.int .u8 0) (.int .i64 0) (.int .i64 0) (.int .u8 0) (.bool false) (.bool false) ∧ Below w.heap.size w wr) (fun i _ => (15 - intOf i).toNat)
  case atStart => exact ⟨0, by omega, by omega, rfl, fun j a b => by omega, R0, hB0⟩
  case round =>
    clear R0 hB0
    obtain ⟨k, hk0, hk15, rfl, hm, R, hB⟩ := hrel
    have hsz := hB.size
    by_cases hlt : k < 15
    · have hb := row_bd hk0 hlt
      go_wp2_with fail
      refine (place_any _ hk0 hlt _).mono ?_
      rintro e w2 ⟨rfl, hb2⟩
      have R2 := R.step hb2
      have hB2 := below_grow hB hsz hb2
      clear R hB hb2
      by_cases hn : rhit one two k
      · have he : getV (rget one two) = .tuple #[.agg #[.int .u8 1, .int .i64 k, .int .i64 0, .int .u8 0, .bool false, .bool (two == ofs k + 17)], .bool true] := by
          unfold rget; rw [rowL_hit hk0 hlt hm.out hn]; rfl
        obtain ⟨hn1, hn2⟩ := hn
        have c1 : (one == fst1 k) = true := by simp [hn1]
        have c2 : ((two == ofs k + 16) = true ∧ (two == ofs k + 17) = false) ∨ ((two == ofs k + 16) = false ∧ (two == ofs k + 17) = true) := by
          rcases hn2 with h | h
          · left; simp [h]
          · right; simp [h]
        clear hn1 hn2
        obtain ⟨p0, p1, p2, p3, p4, p5, pf, pl⟩ := R2.out
        rcases c2 with ⟨c2, c3⟩ | ⟨c2, c3⟩
        · rw [c3] at he
          have He := Lib.hid he; clear he
          go_wp2_with fail
          refine bodyPost_ret (v := .tuple #[.agg #[.int .u8 1, .int .i64 k, .int .i64 0, .int .u8 0, .bool false, .bool false], .bool true]) (by simp [results, Try.results17, go_sem, p0, p1, p2, p3, p4, p5]) rfl ⟨by rw [He.out], ?_⟩
          iterate 6 refine Below.setCell ?_ (by exact Nat.le_refl _) _
          exact hB2
        · rw [c3] at he
          have He := Lib.hid he; clear he
          go_wp2_with fail
          refine bodyPost_ret (v := .tuple #[.agg #[.int .u8 1, .int .i64 k, .int .i64 0, .int .u8 0, .bool false, .bool true], .bool true]) (by simp [results, Try.results17, go_sem, p0, p1, p2, p3, p4, p5]) rfl ⟨by rw [He.out], ?_⟩
          iterate 6 refine Below.setCell ?_ (by exact Nat.le_refl _) _
          exact hB2
      · have hno := Lib.hid hn
        unfold rhit at hn
        have hcs : (one == fst1 k) = false ∨ ((one == fst1 k) = true ∧ (two == ofs k + 16) = false ∧ (two == ofs k + 17) = false) := by
          by_cases he : one = fst1 k
          · right
            refine ⟨by simp [he], ?_, ?_⟩
            · simp; intro h; exact hn ⟨he, Or.inl h⟩
            · simp; intro h; exact hn ⟨he, Or.inr h⟩
          · left; simp [he]
        clear hn
        rcases hcs with c1 | ⟨c1, c2, c3⟩
        all_goals
          go_wp2_with fail
          go_roundw
          case rel => exact ⟨k + 1, by omega, by omega, by go_num, fun j a b => by
            by_cases hj : j = k
            · rw [hj]; exact hno.out
            · exact hm.out j a (by omega), R2, hB2⟩
          case measure => simp [intOf]; omega
    · obtain rfl : k = 15 := by omega
      have hr : rget one two = evL one two ev := by unfold rget; rw [rowL_none hm.out]
      have Hr := Lib.hid hr; clear hr
      go_wp2_with fail
      refine (every_any _).mono ?_
      rintro e wo ⟨s, rfl, hs, hb⟩
      obtain ⟨g, cap, rfl, hc1, hc2, hg1, hg2⟩ := own_slice hs (by omega)
      have R2 := R.step hb
      have hB2 := below_grow hB hsz hb
      clear R hB hb hsz hm
      go_wp2_with fail
      go_loopw [47] (fun i wr => ∃ j : Nat, j ≤ 480 ∧ i = .int .i64 j ∧ Hid (∀ x (h : x < ev.length), x < j → ¬ ehit one two ev[x]) ∧ Row6 wr w.heap.size (.int .u8 0) (.int .i64 0) (.int .i64 0) (.int .u8 0) (.bool false) (.bool false) ∧ Below w.heap.size w wr ∧ ∃ B', wr.ownsRow B' 26 6 (.slice (some ⟨g, 0, none⟩) 480 cap) 480 (cvs ev)) (fun i _ => 480 - (intOf i).toNat)
      case atStart => exact ⟨0, by omega, rfl, fun x h a => by omega, R2, hB2, _, hs⟩
      case round =>
        clear hs R2 hB2
        obtain ⟨j, hj, rfl, hm, R, hB, B', hs⟩ := hrel
        have hsz := hB.size
        by_cases hlt : j < 480
        · have hle : j < ev.length := by rw [ev_len]; exact hlt
          have hcol := ev_col j hle
          obtain ⟨s0, s1, s2, s3, s4, s5⟩ := cvs_get ev j hle
          have hmj := hm.out j hle
          obtain ⟨x, hx⟩ : ∃ x, x = ev[j] := ⟨_, rfl⟩
          have Hx := Lib.hid hx
          rw [← hx] at hcol s0 s1 s2 s3 s4 s5
          clear hx
          obtain ⟨k, r, l, c, i, u⟩ := x
          have q0 := own_cell hs s0
          have q1 := own_cell hs s1
          have q2 := own_cell hs s2
          have q3 := own_cell hs s3
          have q4 := own_cell hs s4
          have q5 := own_cell hs s5
          simp only [] at q0 q1 q2 q3 q4 q5 hcol
          clear s0 s1 s2 s3 s4 s5 hmj
          go_wp2_with fail
          refine (rput_any k r l c i u hcol _).mono ?_
          rintro e w3 ⟨rfl, hb3⟩
          obtain ⟨a, b, e, hp⟩ : ∃ a b e, Pl.put (k, r, l, c, i, u) = (a, b, e) := ⟨_, _, _, rfl⟩
          rw [putV_eq hp]
          have hb0 : Below wr.heap.size wr w3 := (below1 _ (Nat.le_refl _)).trans (hb3.mono (by simp))
          have R3 := R.step hb0
          have Q3 := (Row6.new wr (.int .u8 k) (.int .i64 r) (.int .i64 l) (.int .u8 c) (.bool i) (.bool u) 26).step hb3
          have hB3 := below_grow hB hsz hb0
          have hs3 := own_stays hs hb0
          have Hp := Lib.hid hp
          clear hb3 hb0 R hB hs hsz q0 q1 q2 q3 q4 q5 hp
          by_cases hn : a = one ∧ b = two
          · have he : getV (rget one two) = .tuple #[.agg #[.int .u8 k, .int .i64 r, .int .i64 l, .int .u8 c, .bool i, .bool u], .bool true] := by
              rw [Hr.out, evL_hit ev j hle (fun i hi => hm.out i (by omega) hi) (by rw [← Hx.out]; unfold ehit; rw [Hp.out]; exact hn), ← Hx.out]; rfl
            have He := Lib.hid he; clear he
            have c1 : (a == one) = true := by simp [hn.1]
            have c2 : (b == two) = true := by simp [hn.2]
            clear hn
            obtain ⟨p0, p1, p2, p3, p4, p5, pf, pl⟩ := R3.out
            obtain ⟨q0, q1, q2, q3, q4, q5, qf, ql⟩ := Q3.out
            go_wp2_with fail
            refine bodyPost_ret (v := .tuple #[.agg #[.int .u8 k, .int .i64 r, .int .i64 l, .int .u8 c, .bool i, .bool u], .bool true]) (by simp [results, Try.results17, go_sem, p0, p1, p2, p3, p4, p5]) rfl ⟨by rw [He.out], ?_⟩
            iterate 6 refine Below.setCell ?_ (by exact Nat.le_refl _) _
            exact hB3
          · have hno : ¬ ehit one two ev[j] := by rw [← Hx.out]; unfold ehit; rw [Hp.out]; exact hn
            have Hno := Lib.hid hno; clear hno
            have hcs : (a == one) = false ∨ ((a == one) = true ∧ (b == two) = false) := by
              by_cases he : a = one
              · right; refine ⟨by simp [he], ?_⟩
                simp; intro h; exact hn ⟨he, h⟩
              · left; simp [he]
            clear hn
            rcases hcs with c1 | ⟨c1, c2⟩
            all_goals
              go_wp2_with fail
              go_roundw
              case rel => exact ⟨j + 1, by omega, by go_num, fun x h y => by
                by_cases hj : x = j
                · subst hj; exact Hno.out
                · exact hm.out x h (by omega), R3, hB3, _, hs3⟩
              case measure => simp [intOf]; omega
        · obtain rfl : j = 480 := by omega
          have he : getV (rget one two) = .tuple #[.agg #[.int .u8 0, .int .i64 0, .int .i64 0, .int .u8 0, .bool false, .bool false], .bool false] := by
            rw [Hr.out, evL_none ev (fun i hi => hm.out i hi (by rw [ev_len] at hi; exact hi))]; rfl
          have He := Lib.hid he; clear he
          obtain ⟨p0, p1, p2, p3, p4, p5, pf, pl⟩ := R.out
          go_wp2_with fail
          refine bodyPost_ret (v := .tuple #[.agg #[.int .u8 0, .int .i64 0, .int .i64 0, .int .u8 0, .bool false, .bool false], .bool false]) (by simp [results, Try.results17, go_sem, p0, p1, p2, p3, p4, p5]) rfl ⟨by rw [He.out], ?_⟩
          iterate 6 refine Below.setCell ?_ (by exact Nat.le_refl _) _
          exact hB
end Go.Proofs.Ytjghleeobdbkgaa
