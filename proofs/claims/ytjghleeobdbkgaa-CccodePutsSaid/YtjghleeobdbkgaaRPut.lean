/- The reference's Put, walked case by case but for the last. -/
import Derived.Test.YtjghleeobdbkgaaPut
import Derived.Test.YtjghleeobdbkgaaPlace
namespace Go.Proofs.Ytjghleeobdbkgaa
open Go.RowKit Pl
theorem ret_put {x y y' z : Int} (h : y = y') : Ending.returned (.tuple #[.int .u8 x, .int .u8 y, .int .i64 z]) = .returned (.tuple #[.int .u8 x, .int .u8 y', .int .i64 z]) := by rw [h]
theorem held4 {w W w3 : World} {b o1 o2 o3 o4 : Nat} {v1 v2 v3 v4 : Value} (h : Below w.heap.size w W ∧ b < W.heap.size ∧ W.cell? ⟨b, o1, none⟩ = some v1 ∧ W.cell? ⟨b, o2, none⟩ = some v2 ∧ W.cell? ⟨b, o3, none⟩ = some v3 ∧ W.cell? ⟨b, o4, none⟩ = some v4) (hb : Below W.heap.size W w3) :
    Below w.heap.size w w3 ∧ b < w3.heap.size ∧ w3.cell? ⟨b, o1, none⟩ = some v1 ∧ w3.cell? ⟨b, o2, none⟩ = some v2 ∧ w3.cell? ⟨b, o3, none⟩ = some v3 ∧ w3.cell? ⟨b, o4, none⟩ = some v4 := by
  obtain ⟨h1, h2, h3, h4, h5, h6⟩ := h
  exact ⟨below_then h1 hb, Nat.lt_of_lt_of_le h2 hb.size, (hb.cell (p := ⟨b, o1, none⟩) h2).trans h3, (hb.cell (p := ⟨b, o2, none⟩) h2).trans h4, (hb.cell (p := ⟨b, o3, none⟩) h2).trans h5, (hb.cell (p := ⟨b, o4, none⟩) h2).trans h6⟩
theorem held6 {w W w3 : World} {b o1 o2 o3 o4 o5 o6 : Nat} {v1 v2 v3 v4 v5 v6 : Value} (h : Below w.heap.size w W ∧ b < W.heap.size ∧ W.cell? ⟨b, o1, none⟩ = some v1 ∧ W.cell? ⟨b, o2, none⟩ = some v2 ∧ W.cell? ⟨b, o3, none⟩ = some v3 ∧ W.cell? ⟨b, o4, none⟩ = some v4 ∧ W.cell? ⟨b, o5, none⟩ = some v5 ∧ W.cell? ⟨b, o6, none⟩ = some v6) (hb : Below W.heap.size W w3) :
    Below w.heap.size w w3 ∧ b < w3.heap.size ∧ w3.cell? ⟨b, o1, none⟩ = some v1 ∧ w3.cell? ⟨b, o2, none⟩ = some v2 ∧ w3.cell? ⟨b, o3, none⟩ = some v3 ∧ w3.cell? ⟨b, o4, none⟩ = some v4 ∧ w3.cell? ⟨b, o5, none⟩ = some v5 ∧ w3.cell? ⟨b, o6, none⟩ = some v6 := by
  obtain ⟨h1, h2, h3, h4, h5, h6, h7, h8⟩ := h
  exact ⟨below_then h1 hb, Nat.lt_of_lt_of_le h2 hb.size, (hb.cell (p := ⟨b, o1, none⟩) h2).trans h3, (hb.cell (p := ⟨b, o2, none⟩) h2).trans h4, (hb.cell (p := ⟨b, o3, none⟩) h2).trans h5, (hb.cell (p := ⟨b, o4, none⟩) h2).trans h6, (hb.cell (p := ⟨b, o5, none⟩) h2).trans h7, (hb.cell (p := ⟨b, o6, none⟩) h2).trans h8⟩
set_option maxHeartbeats 2000000 in
theorem rput_bad (k r l c x : Int) (i u : Bool) (h : chk k r l c i u = x) (hx : x ≠ 0) (w : World) :
    Calls Try.prog 15 #[.agg #[.int .u8 k, .int .i64 r, .int .i64 l, .int .u8 c, .bool i, .bool u]] w fun e w' => e = .returned (.tuple #[.int .u8 0, .int .u8 0, .int .i64 x]) ∧ Below w.heap.size w w' := by
  have H := Lib.hid h; clear h
  have hx' : (x != 0) = true := by simpa using hx
  go_enter Try.func15, Try.ntmps15
  go_wp2_with fail
  refine (rcheck_any _ _ _ _ _ _ _).mono ?_
  rintro e w1 ⟨rfl, hb⟩
  rw [H.out]
  go_wp2
  go_ret3
  exact ⟨rfl, below_alloc _ hb⟩
set_option maxHeartbeats 2000000 in
theorem rput_pre0 (r c : Int) (i u : Bool) (hc : 0 ≤ c) (h1 : 0 ≤ r) (h2 : r < 15) (hs : sty c i = true) (h : chk 1 r 0 c i u = 0) (w : World) :
    Calls Try.prog 15 #[.agg #[.int .u8 1, .int .i64 r, .int .i64 0, .int .u8 c, .bool i, .bool u]] w fun e w' => e = .returned (.tuple #[.int .u8 (fst1 r), .int .u8 (ofs r + num c i u), .int .i64 0]) ∧ Below w.heap.size w w' := by
  have H := Lib.hid h; clear h
  have Hs := Lib.hid hs; clear hs
  have hr := row_bd h1 h2
  have hn := num_bd (u := u) hc Hs.out
  go_enter Try.func15, Try.ntmps15
  go_wp2_with fail
  refine (rcheck_any _ _ _ _ _ _ _).mono ?_
  rintro e w1 ⟨rfl, hb⟩
  rw [H.out]
  obtain ⟨hcl, hfr⟩ := bcell hb
  have hz := hb.size
  go_wp2_with fail
  refine (place_any _ h1 h2 _).mono ?_
  rintro e w2 ⟨rfl, hb2⟩
  obtain ⟨hcl2, hfr2⟩ := bcell hb2
  have hz1 : w.heap.size < w1.heap.size := by simp at hz; omega
  clear hz
  go_wp2_with fail
  refine (rnumber_any _ _ _ hc Hs.out _).mono ?_
  rintro e w3 ⟨rfl, hb3⟩
  go_wp2
  go_ret3
  exact ⟨rfl, below_then (below_then (below_alloc _ hb) hb2) hb3⟩
set_option maxHeartbeats 4000000 in
theorem rput_pre1 (r l : Int) (u : Bool) (h1 : 0 ≤ r) (h2 : r < 15) (hl : 0 < l) (hl2 : l ≤ 28) (h : chk 1 r l 0 false u = 0) (w : World) :
    Calls Try.prog 15 #[.agg #[.int .u8 1, .int .i64 r, .int .i64 l, .int .u8 0, .bool false, .bool u]] w fun e w' => e = .returned (.tuple #[.int .u8 (fst1 r), .int .u8 (ofs r + 16 + l / 2 + fl u), .int .i64 0]) ∧ Below w.heap.size w w' := by
  have H := Lib.hid h; clear h
  have hr := row_bd h1 h2
  have hn := fl_bd u
  have en : num 0 false u = fl u := by simp [num]
  have En := Lib.hid en; clear en
  have h6 : (l == 0) = false := by simp; omega
  go_enter Try.func15, Try.ntmps15
  go_wp2_with fail
  refine (rcheck_any _ _ _ _ _ _ _).mono ?_
  rintro e w1 ⟨rfl, hb⟩
  rw [H.out]
  obtain ⟨hcl, hfr⟩ := bcell hb
  have hz := hb.size
  go_wp2_with fail
  refine (place_any _ h1 h2 _).mono ?_
  rintro e w2 ⟨rfl, hb2⟩
  obtain ⟨hcl2, hfr2⟩ := bcell hb2
  have hz1 : w.heap.size < w1.heap.size := by simp at hz; omega
  have hz2 : w1.heap.size ≤ w2.heap.size := hb2.size
  clear hz
  go_wp2_with fail
  have e1 : IntKind.u8.wrap (ofs r + 16) = ofs r + 16 := IntWalk.u8_in _ (by omega)
  have ew : IntKind.u8.wrap (IntKind.u8.wrap (ofs r + 16 + IntKind.u8.wrap (IntKind.i64.wrap (l.tdiv 2))) + num 0 false u) = ofs r + 16 + l / 2 + fl u := by
    rw [En.out, Int.tdiv_eq_ediv_of_nonneg (by omega), IntWalk.i64_in _ (by omega), IntWalk.u8_in (l / 2) (by omega), IntWalk.u8_in (ofs r + 16 + l / 2) (by omega), IntWalk.u8_in _ (by omega)]
  have Ew := Lib.hid ew; clear ew
  have hB : Below w.heap.size w w2 := below_then (below_alloc _ hb) hb2
  have hz3 : w.heap.size < w2.heap.size := by omega
  have k2 : w2.cell? ⟨w.heap.size, 2, none⟩ = some (.int .i64 l) := by simp [*]
  have k3 : w2.cell? ⟨w.heap.size, 3, none⟩ = some (.int .u8 0) := by simp [*]
  have k4 : w2.cell? ⟨w.heap.size, 4, none⟩ = some (.bool false) := by simp [*]
  have k5 : w2.cell? ⟨w.heap.size, 5, none⟩ = some (.bool u) := by simp [*]
  clear hb hcl hfr hb2 hcl2 hfr2
  go_region_held3 (fun w' => Below w.heap.size w w' ∧ w.heap.size < w'.heap.size ∧ w'.cell? ⟨w.heap.size, 2, none⟩ = some (.int .i64 l) ∧ w'.cell? ⟨w.heap.size, 3, none⟩ = some (.int .u8 0) ∧ w'.cell? ⟨w.heap.size, 4, none⟩ = some (.bool false) ∧ w'.cell? ⟨w.heap.size, 5, none⟩ = some (.bool u)) (first | exact ⟨hB.drew, hz3, k2, k3, k4, k5⟩ | exact held4 ‹_› hb3)
    (first | (go_at_call 28; refine (rnumber_any _ _ _ (by omega) rfl _).mono ?_; rintro e w3 ⟨rfl, hb3⟩))
  all_goals go_wp2_with fail
  obtain ⟨g1, _⟩ := ‹Below w.heap.size w w3 ∧ _›
  go_ret3
  exact ⟨ret_put Ew.out, g1⟩
set_option maxHeartbeats 2000000 in
theorem rput_mid (c : Int) (i u : Bool) (hc : 0 ≤ c) (hs : sty c i = true) (h : chk 2 0 0 c i u = 0) (w : World) :
    Calls Try.prog 15 #[.agg #[.int .u8 2, .int .i64 0, .int .i64 0, .int .u8 c, .bool i, .bool u]] w fun e w' => e = .returned (.tuple #[.int .u8 17, .int .u8 (32 + num c i u), .int .i64 0]) ∧ Below w.heap.size w w' := by
  have H := Lib.hid h; clear h
  have Hs := Lib.hid hs; clear hs
  have hn := num_bd (u := u) hc Hs.out
  go_enter Try.func15, Try.ntmps15
  go_wp2_with fail
  refine (rcheck_any _ _ _ _ _ _ _).mono ?_
  rintro e w1 ⟨rfl, hb⟩
  rw [H.out]
  obtain ⟨hcl, hfr⟩ := bcell hb
  go_wp2_with fail
  refine (rnumber_any _ _ _ hc Hs.out _).mono ?_
  rintro e w2 ⟨rfl, hb2⟩
  go_wp2
  go_ret3
  exact ⟨rfl, below_then (below_alloc _ hb) hb2⟩
set_option maxHeartbeats 2000000 in
theorem rput_tab (l : Int) (h1 : 1 ≤ l) (h2 : l ≤ 3) (h : chk 3 0 l 0 false false = 0) (w : World) :
    Calls Try.prog 15 #[.agg #[.int .u8 3, .int .i64 0, .int .i64 l, .int .u8 0, .bool false, .bool false]] w fun e w' => e = .returned (.tuple #[.int .u8 23, .int .u8 (32 + l), .int .i64 0]) ∧ Below w.heap.size w w' := by
  have H := Lib.hid h; clear h
  go_enter Try.func15, Try.ntmps15
  go_wp2_with fail
  refine (rcheck_any _ _ _ _ _ _ _).mono ?_
  rintro e w1 ⟨rfl, hb⟩
  rw [H.out]
  obtain ⟨hcl, hfr⟩ := bcell hb
  go_wp2_with fail
  go_quiet (fail)
  go_wp2
  go_ret3
  exact ⟨rfl, below_drewN _ (below_alloc _ hb)⟩
theorem snd_row (k : Int) (h1 : 4 ≤ k) (h2 : k ≤ 14) (w : World) : (w.alloc (.cells #[.int .u8 32, .int .u8 33, .int .u8 36, .int .u8 37, .int .u8 38, .int .u8 39, .int .u8 41, .int .u8 44, .int .u8 45, .int .u8 46, .int .u8 47] 5)).cell? ⟨w.heap.size, (k - 4).toNat, none⟩ = some (.int .u8 (snd2 k)) := by
  rcases kind_cases h1 h2 with rfl | rfl | rfl | rfl | rfl | rfl | rfl | rfl | rfl | rfl | rfl
  all_goals (rw [World.cell?_alloc_new]; rfl)
end Go.Proofs.Ytjghleeobdbkgaa
