import Derived.Test.YtheemefggkcfbaaDoorR3
import Derived.Test.YtheemefggkcfbaaDoorShelfB
namespace Go.Proofs.YtheemefggkcfbaaDoor
open Go Go.Lib Go.RowKit Go.Shelf
theorem idxFunc_any (p : Nat → Bool) (s : ByteArray) : ∀ (f pos : Nat), s.size ≤ pos + f → decide (0 ≤ Lib.idxFuncFrom p true s f pos) = (runesAt s pos).any p
  | 0, pos, h => by rw [runesAt_end s pos (by omega)]; rfl
  | f + 1, pos, h => by
    unfold Lib.idxFuncFrom
    by_cases hp : pos < s.size
    · have hw := Lib.decode_width_pos s pos hp
      rw [if_pos hp, runesAt_step s pos hp, List.any_cons]
      cases hb : p (Utf8.decode s pos).1
      · rw [if_neg (by simp), Bool.false_or]; exact idxFunc_any p s f _ (by omega)
      · rw [if_pos rfl, Bool.true_or]; simp
    · rw [if_neg hp, runesAt_end s pos hp]; rfl
/-- Are all characters carried? -/
def carC (l : List UInt8) : Bool := (runes l).all inCC
theorem enters102 : ∀ args w, (callFunc 102 args).run Tryd.prog w = .ok (.enter 102 args) w := enters_of Tryd.func102 (by kernel_rfl) rfl
set_option maxHeartbeats 1000000 in
theorem carries_any (s : ByteArray) (w : World) : Calls Tryd.prog 73 #[.string s] w fun e w' => e = .returned (.bool (carC s.data.toList)) ∧ Below w.heap.size w w' := by
  have c := Tryd.strings_ContainsFunc_grows 102 #[] enters102 (fun x => !inCC x) s w (fun W x _ _ => noCC_any x W)
  have e : decide (0 ≤ Lib.idxFunc (fun x => !inCC x) true s) = !carC s.data.toList := by
    have h := idxFunc_any (fun x => !inCC x) s s.size 0 (by omega)
    unfold Lib.idxFunc carC
    rw [h, runesAt_zero, List.not_all_eq_any_not]
  rw [e] at c
  cases hc : carC s.data.toList
  all_goals
    rw [hc] at c
    clear hc e
    go_enter Tryd.func73, Tryd.ntmps73
    go_wp2_with fail
    refine c.mono ?_
    rintro e w1 ⟨rfl, hb⟩
    go_wp2_with fail
    go_ret
    exact ⟨rfl, hb⟩
/-! ### the reference's -/
set_option maxHeartbeats 4000000 in
set_option maxRecDepth 100000 in
theorem rlist_any (s : ByteArray) (w : World) (hs : s.size ≤ 1099511627776) :
    Calls Tryd.prog 144 #[.string s] w (Made w.heap.size 21 1 (runes s.data.toList).length (rcells (runes s.data.toList)) w) := by
  obtain ⟨i0, hi, hz0, hz1, hz2⟩ := info_parts info21
  go_enter Tryd.func144, Tryd.ntmps144
  go_wp2
  go_loopg [3] s.size (fun gf v wx => ∃ (pos : Nat) (d : List Nat), wx.heap[w.heap.size]? = some (.stringIter s pos) ∧ wx.ownsRow w.heap.size 21 1 v d.length (rcells d) ∧ Below w.heap.size w wx ∧ d ++ runesAt s pos = runes s.data.toList ∧ s.size ≤ pos + gf ∧ d.length ≤ pos ∧ pos ≤ s.size + 4)
  case atStart => exact ⟨0, [], World.iter_heap w s 0, World.ownsRow_nil _ _ _ _, below_iter _ _ _, rfl, by omega, by simp, by omega⟩
  case round =>
    obtain ⟨pos, d, hit, hown, hbw, hc, hg, hdp, hps⟩ := hrel
    by_cases hp : pos < s.size
    · obtain ⟨g', rfl⟩ : ∃ g', gk = g' + 1 := ⟨gk - 1, by omega⟩
      have hnx : ∀ ty, (Instr.next (.pointer (some ⟨w.heap.size, 0, none⟩)) true ty).run Tryd.prog wr = _ := fun ty => Lib.run_next_any_at wr w.heap.size s pos ty hit hp
      have hwd := Lib.decode_width_pos s pos hp
      have hwn : (Utf8.decode s pos).2 ≤ 4 := by
        rw [decode_N]; exact (decodeN_conts _ _ _ _ _).2.2.2
      rw [runesAt_step s pos hp] at hc
      have hit2 := Lib.iterAt_heap wr w.heap.size s pos (pos + (Utf8.decode s pos).2) hit
      have hbw2 := Lib.below_iterAt hbw (k := w.heap.size) (Nat.le_refl _) s (pos + (Utf8.decode s pos).2)
      have hown2 := own_iterAt hown hit (pos + (Utf8.decode s pos).2)
      have hne := own_ne_iter hown hit
      clear hown hbw hit
      generalize (Utf8.decode s pos).2 = K at *
      generalize (Utf8.decode s pos).1 = R at *
      generalize wr.iterAt w.heap.size s (pos + K) = W at *
      have hsz := hbw2.size
      go_wp2_with (at_builtin; refine wpList_append_own _ rfl _ _ 120 rfl w.heap.size 21 i0 _ 1 4 Tryd.underlying120 hi hz0 hz1 hz2 rfl (by decide) _ _ _ rfl (hown2.alloc _) ⟨W.heap.size, 0, none⟩ 1 1 [.int .i32 (R : Int)] rfl rfl ?c1 ?c2 ?c3 ?c4 ?c5 ?_)
      case c1 => exact cells_new _ _ _ rfl
      case c2 => simp [Value.oneCell']
      case c3 => unfold maxLen; omega
      case c4 => omega
      case c5 => simp; omega
      · intro v' w1 hown' hgrow _
        have R1 : w1.ownsRow w.heap.size 21 1 v' (d ++ [R]).length (rcells (d ++ [R])) := by
          rw [List.length_append]; unfold rcells at *; rw [List.map_append]; exact hown'
        have R2 := app_step (hown2.alloc _) (hbw2.alloc hsz _) (by simp; omega) hgrow
        have R3 : w1.heap[w.heap.size]? = some (.stringIter s (pos + K)) := (hgrow.block _ (by have := heap_lt hit2; simp; omega) hne).trans ((Below.heap_alloc _ _ _ (heap_lt hit2)).trans hit2)
        clear hown' hgrow hown2 hbw2
        go_wp2_with fail
        go_roundg g'
        case rel => exact ⟨pos + K, d ++ [R], R3, R1, R2, by rw [← hc]; simp, by omega, by simp; omega, by omega⟩
        case measure => omega
    · have hnx : ∀ ty, (Instr.next (.pointer (some ⟨w.heap.size, 0, none⟩)) true ty).run Tryd.prog wr = _ := fun ty => Lib.run_next_end_at wr w.heap.size s pos ty hit hp
      rw [runesAt_end s pos hp, List.append_nil] at hc
      subst hc
      go_wp2
      go_ret
      exact ⟨_, rfl, hown, hbw⟩
theorem own_runes {w : World} {B n : Nat} {a : Option Addr} {m c : Nat} {L : List Nat} (h : w.ownsRow B 21 1 (.slice a m c) n (rcells L)) (i : Nat) (hi : i < L.length) : ∃ g, a = some ⟨g, 0, none⟩ ∧ w.cell? ⟨g, i, none⟩ = some (.int .i32 (L[i] : Int)) := by
  have hl := h.1
  simp [rcells] at hl
  rcases h.2 with ⟨e, h0⟩ | ⟨g, cap, cur, e, hB, hh, hcap, hm, hsz, hx⟩
  · omega
  · obtain ⟨rfl, rfl, rfl⟩ : a = some ⟨g, 0, none⟩ ∧ m = n ∧ c = cap := by cases e; exact ⟨rfl, rfl, rfl⟩
    refine ⟨g, rfl, ?_⟩
    rw [h.cellAt i (by omega)]
    simp [rcells, hi]
set_option maxHeartbeats 4000000 in
set_option maxRecDepth 100000 in
theorem ccindex_any (s : ByteArray) (r : Int) (w : World) (hs : s.size ≤ 1048576) :
    Calls Tryd.prog 140 #[.string s, .int .i32 r] w fun e w' => e = .returned (.int .i64 (findR (runes s.data.toList) r 0)) ∧ Below w.heap.size w w' := by
  have c := rlist_any s w (by omega)
  have hl : (runes s.data.toList).length ≤ 1048576 := by
    have := runes_length s.data.toList
    rw [← size_eq] at this; omega
  generalize runes s.data.toList = l at *
  obtain ⟨Z, hZ⟩ : ∃ Z, findR l r 0 = Z := ⟨_, rfl⟩
  rw [hZ]
  have hF : Hid (findR (l.drop 0) r (0 : Nat) = Z) := Lib.hid hZ
  clear hZ
  go_enter Tryd.func140, Tryd.ntmps140
  go_wp2_with (go_at_call 144; refine c.mono ?_; rintro e w1 ⟨v, rfl, ho, hb⟩; obtain ⟨a, cp, rfl⟩ := own_len ho)
  clear c
  go_loop [10] (fun v => ∃ k : Nat, v = .int .i64 k ∧ k ≤ l.length ∧ Hid (findR (l.drop k) r (k : Nat) = Z)) (fun v => l.length - (intOf v).toNat)
  case atStart => exact ⟨0, rfl, Nat.zero_le _, hF⟩
  case round =>
    clear hF
    obtain ⟨k, rfl, hk, HF⟩ := hrel
    by_cases hlt : k < l.length
    · have hz : (k : Int) < (l.length : Int) := by omega
      obtain ⟨g, rfl, hc⟩ := own_runes ho k hlt
      have hs := findR_drop l r k hlt (k : Int)
      have HF2 := HF.out
      rw [hs] at HF2
      generalize (l[k] : Int) = x at *
      by_cases hx : x = r
      · have HZ : Hid (Z = (k : Int)) := by rw [if_pos hx] at HF2; exact Lib.hid HF2.symm
        have hxr : (x == r) = true := by simp [hx]
        clear HF HF2 hs hx
        go_wp2_with fail
        go_ret
        exact ⟨ret_int HZ.out.symm, hb⟩
      · have HZ : Hid (findR (l.drop (k + 1)) r ((k + 1 : Nat) : Int) = Z) := by rw [if_neg hx] at HF2; exact Lib.hid (by rw [← HF2]; rfl)
        have hxr : (x == r) = false := by simpa using hx
        clear HF HF2 hs hx
        go_wp2_with fail
        go_round
        case rel => exact ⟨k + 1, by go_num, by omega, HZ⟩
        case measure => simp [intOf]; omega
    · obtain rfl : k = l.length := by omega
      have HZ : Hid (Z = -1) := by have h := HF.out; rw [List.drop_length] at h; exact Lib.hid h.symm
      have hz : ¬ (l.length : Int) < (l.length : Int) := by omega
      clear HF
      go_wp2_with fail
      go_ret
      exact ⟨ret_int HZ.out.symm, hb⟩
end Go.Proofs.YtheemefggkcfbaaDoor
