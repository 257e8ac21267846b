import Derived.Test.YtheemefggkcfbaaDoorT2
import Derived.Test.YtheemefggkcfbaaDoorShelf
namespace Go.Proofs.YtheemefggkcfbaaDoor
open Go Go.Lib Go.RowKit Go.Shelf
/-- What the laid variables give, and the machine's limit for searching. -/
structure Env (w : World) : Prop where
  tabs : Lib.Utf8Tabs 1 2 w
  maxl : ∃ m : Int, w.cell? ⟨4, 0, none⟩ = some (.int .i64 m)
theorem cell_lt {w : World} {a : Addr} {v : Value} (hc : w.cell? a = some v) : a.block < w.heap.size := by
  rcases Nat.lt_or_ge a.block w.heap.size with h' | h'
  · exact h'
  · simp [World.cell?, Array.getElem?_eq_none h'] at hc
theorem Env.below {w w' : World} (h : Env w) (hb : Below w.heap.size w w') : Env w' :=
  ⟨Utf8Tabs_below h.tabs hb, by obtain ⟨m, hm⟩ := h.maxl; exact ⟨m, (hb.cell (cell_lt hm)).trans hm⟩⟩
theorem below_grow {B : Nat} {w w1 w2 : World} (h : Below B w w1) (hz : B ≤ w1.heap.size) (h2 : Below w1.heap.size w1 w2) : Below B w w2 := h.trans (h2.mono hz)
theorem below_trans {a b c : World} (h : Below a.heap.size a b) (g : Below b.heap.size b c) : Below a.heap.size a c :=
  below_grow h h.size g
theorem heap_lt {w : World} {k : Nat} {o : Obj} (h : w.heap[k]? = some o) : k < w.heap.size := (Array.getElem?_eq_some_iff.1 h).1

set_option maxHeartbeats 4000000 in
set_option maxRecDepth 100000 in
theorem rvalid_any (s : ByteArray) (w : World) :
    Calls Tryd.prog 60 #[.string s] w fun e w' => e = .returned (.bool (validC s.data.toList)) ∧ Below w.heap.size w w' := by
  obtain ⟨Z, hZ⟩ : ∃ Z, validC s.data.toList = Z := ⟨_, rfl⟩
  rw [hZ]
  go_enter Tryd.func60, Tryd.ntmps60
  go_wp2
  go_loopg [4] s.size (fun gf s4 wx => ∃ (pos : Nat), wx.heap[w.heap.size]? = some (.stringIter s pos) ∧ Below w.heap.size w wx ∧ (runesAt s pos).all inR = Z ∧ s.size ≤ pos + gf)
  case atStart => exact ⟨0, World.iter_heap w s 0, below_iter _ _ _, hZ, by omega⟩
  case round =>
    obtain ⟨pos, hit, hbw, hc, hg⟩ := hrel
    by_cases hp : pos < s.size
    · obtain ⟨g', rfl⟩ : ∃ g', gk = g' + 1 := ⟨gk - 1, by omega⟩
      have hnx : ∀ ty, (Instr.next (.pointer (some ⟨w.heap.size, 0, none⟩)) true ty).run Tryd.prog wr = _ := fun ty => Lib.run_next_any_at wr w.heap.size s pos ty hit hp
      have hwd := Lib.decode_width_pos s pos hp
      rw [runesAt_step s pos hp] at hc
      have hle := Lib.rune_le s pos
      have hit2 := Lib.iterAt_heap wr w.heap.size s pos (pos + (Utf8.decode s pos).2) hit
      have hbw2 := Lib.below_iterAt hbw (k := w.heap.size) (Nat.le_refl _) s (pos + (Utf8.decode s pos).2)
      generalize (Utf8.decode s pos).2 = K at *
      generalize (Utf8.decode s pos).1 = R at *
      generalize wr.iterAt w.heap.size s (pos + K) = W at *
      have c := rindex_any (R : Int) W (by omega) (by omega)
      have hd : inR R = decide (0 ≤ idxR R) := rfl
      generalize idxR (R : Int) = I at *
      simp only [List.all_cons, hd] at hc
      clear hd
      by_cases hi : I < 0
      · have hcz : Z = false := by rw [← hc]; simp; omega
        go_wp2_with (refine c.mono ?_; rintro e w1 ⟨rfl, hb1⟩)
        go_ret
        exact ⟨ret_bool hcz.symm, below_grow hbw2 hbw2.size hb1⟩
      · have hcz : (runesAt s (pos + K)).all inR = Z := by rw [← hc]; simp; omega
        go_wp2_with (refine c.mono ?_; rintro e w1 ⟨rfl, hb1⟩)
        go_roundg g'
        case measure => omega
        case rel => exact ⟨pos + K, (hb1.block _ (heap_lt hit2)).trans hit2, below_grow hbw2 hbw2.size hb1, hcz, by omega⟩
    · have hnx : ∀ ty, (Instr.next (.pointer (some ⟨w.heap.size, 0, none⟩)) true ty).run Tryd.prog wr = _ := fun ty => Lib.run_next_end_at wr w.heap.size s pos ty hit hp
      rw [runesAt_end s pos hp] at hc
      go_wp2
      go_ret
      exact ⟨ret_bool (by rw [← hc]; rfl), hbw⟩

set_option maxHeartbeats 4000000 in
set_option maxRecDepth 100000 in
theorem valid_any (s : ByteArray) (w : World) (hs : s.size ≤ 9223372036854775807) (hE : Env w) :
    Calls Tryd.prog 58 #[.string s] w fun e w' => e = .returned (.bool (validC s.data.toList)) ∧ Below w.heap.size w w' := by
  have cV := Tryd.utf8_ValidString s w hs hE.tabs
  by_cases hv : validD s.data.toList = true
  case neg =>
    have hv' : validD s.data.toList = false := by simpa using hv
    rw [validD_false hv']
    rw [hv'] at cV
    clear hv hv'
    go_enter Tryd.func58, Tryd.ntmps58
    go_wp2_with (refine cV.mono ?_; rintro e w1 ⟨rfl, hb1⟩)
    go_ret
    exact ⟨rfl, hb1⟩
  obtain ⟨Z, hZ⟩ : ∃ Z, validC s.data.toList = Z := ⟨_, rfl⟩
  rw [hZ]
  rw [hv] at cV
  clear hv
  go_enter Tryd.func58, Tryd.ntmps58
  go_wp2_with (refine cV.mono ?_; rintro e w1 ⟨rfl, hb1⟩)
  go_loopg [4] s.size (fun gf s4 wx => ∃ (pos : Nat), wx.heap[w1.heap.size]? = some (.stringIter s pos) ∧ Below w1.heap.size w1 wx ∧ (runesAt s pos).all inR = Z ∧ s.size ≤ pos + gf)
  case atStart => exact ⟨0, World.iter_heap w1 s 0, below_iter _ _ _, hZ, by omega⟩
  case round =>
    obtain ⟨pos, hit, hbw, hc, hg⟩ := hrel
    by_cases hp : pos < s.size
    · obtain ⟨g', rfl⟩ : ∃ g', gk = g' + 1 := ⟨gk - 1, by omega⟩
      have hnx : ∀ ty, (Instr.next (.pointer (some ⟨w1.heap.size, 0, none⟩)) true ty).run Tryd.prog wr = _ := fun ty => Lib.run_next_any_at wr w1.heap.size s pos ty hit hp
      have hwd := Lib.decode_width_pos s pos hp
      rw [runesAt_step s pos hp] at hc
      have hle := Lib.rune_le s pos
      have hit2 := Lib.iterAt_heap wr w1.heap.size s pos (pos + (Utf8.decode s pos).2) hit
      have hbw2 := Lib.below_iterAt hbw (k := w1.heap.size) (Nat.le_refl _) s (pos + (Utf8.decode s pos).2)
      generalize (Utf8.decode s pos).2 = K at *
      generalize (Utf8.decode s pos).1 = R at *
      generalize wr.iterAt w1.heap.size s (pos + K) = W at *
      have c := index_any (R : Int) W (by omega) (by omega)
      have hd : inR R = decide (0 ≤ idxR R) := rfl
      generalize idxR (R : Int) = I at *
      simp only [List.all_cons, hd] at hc
      clear hd
      by_cases hi : I < 0
      · have hcz : Z = false := by rw [← hc]; simp; omega
        go_wp2_with (refine c.mono ?_; rintro e w2 ⟨rfl, hb2⟩)
        go_ret
        exact ⟨ret_bool hcz.symm, below_trans hb1 (below_grow hbw2 hbw2.size hb2)⟩
      · have hcz : (runesAt s (pos + K)).all inR = Z := by rw [← hc]; simp; omega
        go_wp2_with (refine c.mono ?_; rintro e w2 ⟨rfl, hb2⟩)
        go_roundg g'
        case measure => omega
        case rel => exact ⟨pos + K, (hb2.block _ (heap_lt hit2)).trans hit2, below_grow hbw2 hbw2.size hb2, hcz, by omega⟩
    · have hnx : ∀ ty, (Instr.next (.pointer (some ⟨w1.heap.size, 0, none⟩)) true ty).run Tryd.prog wr = _ := fun ty => Lib.run_next_end_at wr w1.heap.size s pos ty hit hp
      rw [runesAt_end s pos hp] at hc
      go_wp2
      go_ret
      exact ⟨ret_bool (by rw [← hc]; rfl), below_trans hb1 hbw⟩

set_option maxHeartbeats 4000000 in
theorem len_any (s : ByteArray) (w : World) (hs : s.size < 9223372036854775807) (hE : Env w) :
    Calls Tryd.prog 25 #[.string s] w fun e w' => e = .returned (.int .i64 (lenC s.data.toList)) ∧ Below w.heap.size w w' := by
  have cV := valid_any s w (by omega) hE
  unfold lenC
  by_cases hv : validC s.data.toList = true
  · rw [if_pos hv]
    rw [hv] at cV
    clear hv
    have cR := fun w => Tryd.utf8_RuneCountInString s w hs
    rw [runeCount_runes] at cR
    generalize ((runes s.data.toList).length : Int) = N at *
    go_enter Tryd.func25, Tryd.ntmps25
    go_wp2_with (first | (refine cV.mono ?_; rintro e w1 ⟨rfl, hb1⟩) | (refine (cR _).mono ?_; rintro e w2 ⟨rfl, pos, rfl⟩))
    go_ret
    exact ⟨rfl, below_trans hb1 (below_iter _ _ _)⟩
  · have hv' : validC s.data.toList = false := by simpa using hv
    rw [if_neg hv]
    rw [hv'] at cV
    clear hv hv'
    go_enter Tryd.func25, Tryd.ntmps25
    go_wp2_with (refine cV.mono ?_; rintro e w1 ⟨rfl, hb1⟩)
    go_ret
    exact ⟨rfl, hb1⟩

/-- A slice that the call made: it owns these cells. -/
def Made (B : Nat) (E : TypeId) (size n : Nat) (xs : List Value) (w : World) (e : Ending) (w' : World) : Prop :=
  ∃ v, e = .returned v ∧ w'.ownsRow B E size v n xs ∧ Below w.heap.size w w'
theorem cells_new (W : World) (l : List Value) (T : TypeId) {b : Nat} (hb : b = W.heap.size) : ∀ j u, l[j]? = some u → (W.alloc (.cells l.toArray T)).cell? ((⟨b, 0, none⟩ : Addr).add j) = some u := by
  subst hb
  intro j u hu
  have e : (⟨W.heap.size, 0, none⟩ : Addr).add j = ⟨W.heap.size, j, none⟩ := by unfold Addr.add; split <;> simp_all
  rw [e, World.cell?_alloc_new]
  simpa using hu
theorem app_step {B : Nat} {E : TypeId} {size k : Nat} {v : Value} {xs : List Value} {w W1 w' : World} (hown : W1.ownsRow B E size v k xs) (hB : Below B w W1) (hz : B ≤ W1.heap.size) (hg : W1.grownBy w' v.ownBlock) : Below B w w' :=
  hB.grown hg hz (fun j hj => (hown.lt j hj).1)
theorem info21 : (Tryd.prog.info? 21).map (fun i => (i.zero, i.size, i.bytes)) = some (some (.int .i32 0), 1, 4) := by kernel_rfl
def rcells (l : List Nat) : List Value := l.map (fun r : Nat => Value.int .i32 (r : Int))
set_option maxHeartbeats 4000000 in
set_option maxRecDepth 100000 in
theorem rrunes_any (s : ByteArray) (w : World) (hs : s.size ≤ 1099511627776) :
    Calls Tryd.prog 96 #[.string s] w (Made w.heap.size 21 1 (runes s.data.toList).length (rcells (runes s.data.toList)) w) := by
  obtain ⟨i0, hi, hz0, hz1, hz2⟩ := info_parts info21
  go_enter Tryd.func96, Tryd.ntmps96
  go_wp2
  go_loopg [3] s.size (fun gf v wx => ∃ (pos : Nat) (d : List Nat), wx.heap[w.heap.size]? = some (.stringIter s pos) ∧ wx.ownsRow w.heap.size 21 1 v d.length (rcells d) ∧ Below w.heap.size w wx ∧ d ++ runesAt s pos = runes s.data.toList ∧ s.size ≤ pos + gf ∧ d.length ≤ pos ∧ pos ≤ s.size + 4)
  case atStart => exact ⟨0, [], World.iter_heap w s 0, World.ownsRow_nil _ _ _ _, below_iter _ _ _, rfl, by omega, by simp, by omega⟩
  case round =>
    obtain ⟨pos, d, hit, hown, hbw, hc, hg, hdp, hps⟩ := hrel
    by_cases hp : pos < s.size
    · obtain ⟨g', rfl⟩ : ∃ g', gk = g' + 1 := ⟨gk - 1, by omega⟩
      have hnx : ∀ ty, (Instr.next (.pointer (some ⟨w.heap.size, 0, none⟩)) true ty).run Tryd.prog wr = _ := fun ty => Lib.run_next_any_at wr w.heap.size s pos ty hit hp
      have hwd := Lib.decode_width_pos s pos hp
      have hwn : (Utf8.decode s pos).2 ≤ 4 := by
        rw [decode_N]; exact (decodeN_conts _ _ _ _ _).2.2.2
      rw [runesAt_step s pos hp] at hc
      have hit2 := Lib.iterAt_heap wr w.heap.size s pos (pos + (Utf8.decode s pos).2) hit
      have hbw2 := Lib.below_iterAt hbw (k := w.heap.size) (Nat.le_refl _) s (pos + (Utf8.decode s pos).2)
      have hown2 := own_iterAt hown hit (pos + (Utf8.decode s pos).2)
      have hne := own_ne_iter hown hit
      clear hown hbw hit
      generalize (Utf8.decode s pos).2 = K at *
      generalize (Utf8.decode s pos).1 = R at *
      generalize wr.iterAt w.heap.size s (pos + K) = W at *
      have hsz := hbw2.size
      go_wp2_with (at_builtin; refine wpList_append_own _ rfl _ _ 120 rfl w.heap.size 21 i0 _ 1 4 Tryd.underlying120 hi hz0 hz1 hz2 rfl (by decide) _ _ _ rfl (hown2.alloc _) ⟨W.heap.size, 0, none⟩ 1 1 [.int .i32 (R : Int)] rfl rfl ?c1 ?c2 ?c3 ?c4 ?c5 ?_)
      case c1 => exact cells_new _ _ _ rfl
      case c2 => simp [Value.oneCell']
      case c3 => unfold maxLen; omega
      case c4 => omega
      case c5 => simp; omega
      · intro v' w1 hown' hgrow _
        have R1 : w1.ownsRow w.heap.size 21 1 v' (d ++ [R]).length (rcells (d ++ [R])) := by
          rw [List.length_append]; unfold rcells at *; rw [List.map_append]; exact hown'
        have R2 := app_step (hown2.alloc _) (hbw2.alloc hsz _) (by simp; omega) hgrow
        have R3 : w1.heap[w.heap.size]? = some (.stringIter s (pos + K)) := (hgrow.block _ (by have := heap_lt hit2; simp; omega) hne).trans ((Below.heap_alloc _ _ _ (heap_lt hit2)).trans hit2)
        clear hown' hgrow hown2 hbw2
        go_wp2_with fail
        go_roundg g'
        case rel => exact ⟨pos + K, d ++ [R], R3, R1, R2, by rw [← hc]; simp, by omega, by simp; omega, by omega⟩
        case measure => omega
    · have hnx : ∀ ty, (Instr.next (.pointer (some ⟨w.heap.size, 0, none⟩)) true ty).run Tryd.prog wr = _ := fun ty => Lib.run_next_end_at wr w.heap.size s pos ty hit hp
      rw [runesAt_end s pos hp, List.append_nil] at hc
      subst hc
      go_wp2
      go_ret
      exact ⟨_, rfl, hown, hbw⟩
theorem own_len {w : World} {B e size n : Nat} {v : Value} {xs : List Value} (h : w.ownsRow B e size v n xs) : ∃ a c, v = .slice a n c := by
  rcases h.2 with ⟨rfl, h2⟩ | ⟨g, cap, cur, rfl, _⟩
  · exact ⟨none, 0, by rw [h2]⟩
  · exact ⟨_, _, rfl⟩
set_option maxHeartbeats 4000000 in
theorem rlen_any (s : ByteArray) (w : World) (hs : s.size ≤ 1099511627776) :
    Calls Tryd.prog 67 #[.string s] w fun e w' => e = .returned (.int .i64 (lenC s.data.toList)) ∧ Below w.heap.size w w' := by
  have cV := rvalid_any s w
  unfold lenC
  by_cases hv : validC s.data.toList = true
  · rw [if_pos hv]
    rw [hv] at cV
    clear hv
    have cR := fun w => rrunes_any s w hs
    generalize (runes s.data.toList).length = N at *
    generalize rcells (runes s.data.toList) = X at *
    go_enter Tryd.func67, Tryd.ntmps67
    go_wp2_with (first | (refine cV.mono ?_; rintro e w1 ⟨rfl, hb1⟩) | (refine (cR _).mono ?_; rintro e w2 ⟨v, rfl, ho, hb2⟩; obtain ⟨a, c, rfl⟩ := own_len ho))
    go_ret
    exact ⟨rfl, below_trans hb1 hb2⟩
  · have hv' : validC s.data.toList = false := by simpa using hv
    rw [if_neg hv]
    rw [hv'] at cV
    clear hv hv'
    go_enter Tryd.func67, Tryd.ntmps67
    go_wp2_with (refine cV.mono ?_; rintro e w1 ⟨rfl, hb1⟩)
    go_ret
    exact ⟨rfl, hb1⟩
end Go.Proofs.YtheemefggkcfbaaDoor
