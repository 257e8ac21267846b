import Derived.Test.YtheemefggkcfbaaDoorR10
import Derived.Shelf.Strings.IndexAny
import Derived.Lib.QuoteLoop
namespace Go.Proofs.YtheemefggkcfbaaDoor
open Go Go.Lib Go.RowKit Go.Shelf Go.Proofs
/-- strings.IndexRune of the two spaces. -/
def iR (c : Nat) : Int := if c = 32 then 0 else if c = 160 then 1 else -1
theorem iR_sp (c : Nat) : decide (0 ≤ iR c) = spR c := by
  unfold iR spR
  by_cases h : c = 32
  · simp [h]
  · by_cases h2 : c = 160
    · simp [h2]
    · simp [h, h2]
theorem ascii_nbs : ∀ c : Nat, c < 128 → Lib.indexByte nbs.data.toList ((c : Int)).toNat.toUInt8 = iR c := by decide +kernel
theorem irune_any (c : Nat) (h : c ≤ 1114111) (hs : c < 55296 ∨ 57343 < c) (w : World) : Calls Tryd.prog 118 #[.string nbs, .int .i32 (c : Int)] w fun e w' => e = .returned (.int .i64 (iR c)) ∧ Below w.heap.size w w' := by
  by_cases h1 : c < 128
  · refine (Tryd.strings_IndexRune_ascii nbs (c : Int) w (by omega) (by omega)).mono ?_
    rintro e w' ⟨rfl, rfl⟩
    rw [ascii_nbs c h1]
    exact ⟨rfl, Below.refl _ _⟩
  · by_cases h2 : c ≤ 2047
    · have e : iR c = if c = 160 then 1 else -1 := by unfold iR; rw [if_neg (by omega)]
      rw [e]; exact irune_two c (by omega) h2 w
    · have e : iR c = -1 := by unfold iR; rw [if_neg (by omega), if_neg (by omega)]
      rw [e]
      by_cases h3 : c ≤ 65535
      · by_cases h4 : c = 65533
        · subst h4; exact irune_bad w
        · exact irune_three c (by omega) h3 hs h4 w
      · exact irune_four c (by omega) h w
theorem rune_valid (s : ByteArray) (pos : Nat) : (Utf8.decode s pos).1 < 55296 ∨ 57343 < (Utf8.decode s pos).1 := by
  rw [decode_N]
  rcases decodeN_valid (s.size - pos) (s.data.toList.getD pos 0).toNat (s.data.toList.getD (pos + 1) 0).toNat (s.data.toList.getD (pos + 2) 0).toNat (s.data.toList.getD (pos + 3) 0).toNat (UInt8.toNat_lt _) with h | h
  · exact Or.inl h
  · exact Or.inr h.1
section
variable {P : Program} {ρ : Ren}
def AnyPost (s : ByteArray) (w : World) (e : Ending) (w' : World) : Prop := ∃ k : Int, e = .returned (.int .i64 k) ∧ decide (0 ≤ k) = (runes s.data.toList).any spR ∧ Below w.heap.size w w'
theorem any_post {s : ByteArray} {w w' : World} {k : Int} {e : Ending} (he : e = .returned (.int .i64 k)) (h : decide (0 ≤ k) = (runes s.data.toList).any spR) (hb : Below w.heap.size w w') : AnyPost s w e w' := ⟨k, he, h, hb⟩
set_option maxHeartbeats 4000000 in
set_option maxRecDepth 1000000 in
theorem indexAny_nbs (L : Lays.n153 P ρ) (hv116 : ∀ w, (zeroValue (ρ.t 116)).run P w = .ok (.agg (Array.replicate 256 (.bool false))) w) (hi116 : (P.info? (ρ.t 116)).map (·.size) = some 256) (s : ByteArray) (w : World) (hs : s.size < 4294967281)
    (hIR : ∀ (c : Nat), c ≤ 1114111 → (c < 55296 ∨ 57343 < c) → ∀ W, Calls P (ρ.f 152) #[.string nbs, .int .i32 (c : Int)] W fun e w' => e = .returned (.int .i64 (iR c)) ∧ Below W.heap.size W w') :
    Calls P (ρ.f 153) #[.string s, .string nbs] w (AnyPost s w) := by
  have hM := fun W => make_no { L with } hv116 hi116 W
  have hU := fun n W => Any.strings_shouldUseASCIISet { L with } n W
  have hemp : nbs.toList.isEmpty = false := by decide +kernel
  have hn1 : ((nbs.size : Int) == 1) = false := by decide +kernel
  have hrun := Lib.hid (runesAt_zero s)
  have hsc := fun W => run_storeCells_new (P := P) W (ρ.t 116) (Array.replicate 256 (.bool false)) (Lib.setCells [32]) (by rw [Lib.setCells_size]; exact hi116) (by rw [Lib.setCells_size, Array.size_replicate]) (Lib.setCells_one _)
  have hsz := Lib.setCells_size [32]
  generalize nbs = N at *
  have t3 := L.t3; have a3 := L.a3; have z3 := L.z3; have v3 := L.v3
  have t4 := L.t4; have a4 := L.a4; have z4 := L.z4; have v4 := L.v4
  have t5 := L.t5; have a5 := L.a5; have z5 := L.z5; have v5 := L.v5
  have t9 := L.t9; have a9 := L.a9; have z9 := L.z9; have v9 := L.v9
  have t21 := L.t21; have a21 := L.a21; have z21 := L.z21; have v21 := L.v21
  have t116 := L.t116
  have e226 : ∀ args w, (callFunc (ρ.f 226) args).run P w = .ok (.enter (ρ.f 226) args) w := enters_of L.f226 (by kernel_rfl) rfl
  have e227 : ∀ args w, (callFunc (ρ.f 227) args).run P w = .ok (.enter (ρ.f 227) args) w := enters_of L.f227 (by kernel_rfl) rfl
  have e152 : ∀ args w, (callFunc (ρ.f 152) args).run P w = .ok (.enter (ρ.f 152) args) w := enters_of L.f152 (by kernel_rfl) rfl
  go_enter L.f153, Body.n153_ntmps ρ
  go_upto_if 26 with (go_at_fn (ρ.f 226); refine (hU _ _).mono ?_; rintro e w' ⟨rfl, hw⟩; rw [hw]; clear hw)
  go_cut [24] (fun s24 wx => s24 = .string s ∧ Below w.heap.size w wx)
  case first =>
    by_cases h8 : (8 : Int) < (s.size : Int)
    · have d8 : decide ((8 : Int) < (s.size : Int)) = true := decide_eq_true h8
      go_wp2_with (go_at_fn (ρ.f 227); refine (hM _).mono ?_; rintro e w' ⟨rfl, hw⟩; rw [hw]; clear hw)
      have hsc1 : (storeCells ⟨w.heap.size + 1, 0, none⟩ (Lib.setCells [32]).toList 0).run P ((w.alloc (.cells (Lib.setCells [32]) (ρ.t 116))).alloc (.cells (Array.replicate 256 (.bool false)) (ρ.t 116))) = .ok () ((w.alloc (.cells (Lib.setCells [32]) (ρ.t 116))).alloc (.cells (Lib.setCells [32]) (ρ.t 116))) := by
        have h := hsc (w.alloc (.cells (Lib.setCells [32]) (ρ.t 116)))
        simpa using h
      simp only [L.z116, Result.andThen, ↓reduceIte, hsc1]
      rw [Oper.upon_skip]
      go_wp2_with fail
      go_meet
      exact ⟨rfl, ((Below.refl _ w).alloc (Nat.le_refl _) _).alloc (by simp) _⟩
    · have d8 : decide ((8 : Int) < (s.size : Int)) = false := decide_eq_false h8
      go_wp2_with fail
      go_meet
      exact ⟨rfl, Below.refl _ _⟩
  case rest =>
    obtain ⟨rfl, hb⟩ := hcut
    clear hM hU hsc hsz hv116 hi116
    go_wp2_with fail
    go_loopg [] s.size (fun gf wx => ∃ (pos : Nat), wx.heap[wc.heap.size]? = some (.stringIter s pos) ∧ Below wc.heap.size wc wx ∧ Hid ((runesAt s pos).any spR = (runes s.data.toList).any spR) ∧ s.size ≤ pos + gf)
    case atStart => exact ⟨0, World.iter_heap wc s 0, below_iter _ _ _, Lib.hid (by rw [hrun.out]), by omega⟩
    case round =>
      obtain ⟨pos, hit, hbw, HA, hg⟩ := hrel
      by_cases hp : pos < s.size
      · obtain ⟨g', rfl⟩ : ∃ g', gk = g' + 1 := ⟨gk - 1, by omega⟩
        have hnx : ∀ ty, (Instr.next (.pointer (some ⟨wc.heap.size, 0, none⟩)) true ty).run P wr = _ := fun ty => Lib.run_next_any_at wr wc.heap.size s pos ty hit hp
        have hwd := Lib.decode_width_pos s pos hp
        have hc := HA.out
        rw [runesAt_step s pos hp, List.any_cons, ← iR_sp] at hc
        have hit2 := Lib.iterAt_heap wr wc.heap.size s pos (pos + (Utf8.decode s pos).2) hit
        have hbw2 := Lib.below_iterAt hbw (k := wc.heap.size) (Nat.le_refl _) s (pos + (Utf8.decode s pos).2)
        have hle := Lib.rune_le s pos
        have hvl := rune_valid s pos
        have cI := hIR (Utf8.decode s pos).1 hle hvl
        clear hIR hle hvl
        generalize (Utf8.decode s pos).2 = K at *
        generalize (Utf8.decode s pos).1 = R at *
        generalize wr.iterAt wc.heap.size s (pos + K) = W at *
        have cI1 := cI W
        clear HA cI
        generalize iR R = z at *
        by_cases hz : 0 ≤ z
        · have HT : Hid ((runes s.data.toList).any spR = true) := Lib.hid (by rw [← hc, decide_eq_true hz]; rfl)
          clear hc
          go_wp2_with (go_at_fn (ρ.f 152); refine cI1.mono ?_; rintro e w2 ⟨rfl, hb2⟩)
          go_ret
          exact any_post rfl (by rw [HT.out]; simp) (below_trans hb (below_grow hbw2 hbw2.size hb2))
        · have HA2 : Hid ((runesAt s (pos + K)).any spR = (runes s.data.toList).any spR) := by rw [decide_eq_false hz, Bool.false_or] at hc; exact Lib.hid hc
          have hz2 : ¬ (0 : Int) ≤ z := hz
          clear hc
          go_wp2_with (go_at_fn (ρ.f 152); refine cI1.mono ?_; rintro e w2 ⟨rfl, hb2⟩)
          go_roundg g'
          case measure => omega
          case rel => exact ⟨pos + K, (hb2.block _ (heap_lt hit2)).trans hit2, below_grow hbw2 hbw2.size hb2, HA2, by omega⟩
      · have hnx : ∀ ty, (Instr.next (.pointer (some ⟨wc.heap.size, 0, none⟩)) true ty).run P wr = _ := fun ty => Lib.run_next_end_at wr wc.heap.size s pos ty hit hp
        have HT : Hid ((runes s.data.toList).any spR = false) := Lib.hid (by rw [← HA.out, runesAt_end s pos hp]; rfl)
        clear HA hIR
        go_wp2_with fail
        go_ret
        exact any_post rfl (by rw [HT.out]; rfl) (below_trans hb hbw)
end
theorem info115 : (Tryd.prog.info? 115).map (fun i => (i.zero, i.size)) = some (some (.agg (Array.replicate 256 (.bool false))), 256) := by kernel_rfl
set_option maxHeartbeats 1000000 in
theorem contains_nbs (s : ByteArray) (w : World) (hs : s.size < 4294967281) : Calls Tryd.prog 72 #[.string s, .string nbs] w fun e w' => e = .returned (.bool ((runes s.data.toList).any spR)) ∧ Below w.heap.size w w' := by
  have hz : ∀ w, (zeroValue 115).run Tryd.prog w = .ok (.agg (Array.replicate 256 (.bool false))) w := fun w => by
    obtain ⟨i, hi, he⟩ := Option.map_eq_some_iff.1 info115
    simp only [Prod.mk.injEq] at he
    simp [zeroValue, typeInfo, hi, he.1]
  have hi : (Tryd.prog.info? 115).map (·.size) = some 256 := by
    obtain ⟨i, hi, he⟩ := Option.map_eq_some_iff.1 info115
    simp only [Prod.mk.injEq] at he
    rw [hi]; simp [he.2]
  have c : Calls Tryd.prog 100 #[.string s, .string nbs] w fun e w' => ∃ k : Int, e = .returned (.int .i64 k) ∧ decide (0 ≤ k) = (runes s.data.toList).any spR ∧ Below w.heap.size w w' :=
    indexAny_nbs Tryd.lays153 hz hi s w hs (fun c h1 h2 W => irune_any c h1 h2 W)
  generalize (runes s.data.toList).any spR = Z at *
  generalize nbs = N at *
  clear hz hi
  go_enter Tryd.func72, Tryd.ntmps72
  go_wp2_with fail
  refine c.mono ?_
  rintro e w1 ⟨k, rfl, hk, hb⟩
  have HK := Lib.hid hk
  clear hk
  go_wp2_with fail
  go_ret
  exact ⟨ret_bool HK.out, hb⟩
end Go.Proofs.YtheemefggkcfbaaDoor
