import Derived.Test.YtheemefggkcfbaaDoorT17
namespace Go.Proofs.YtheemefggkcfbaaDoor
open Go Go.Lib Go.RowKit Go.Shelf
/-- The first places of a slice of strings that the call made. -/
def Front1 (w : World) (B g n : Nat) (d : List (List UInt8)) : Prop :=
  ∃ xs, w.ownsRow B 9 1 (.slice (some ⟨g, 0, none⟩) n n) n xs ∧ xs.take d.length = wcells d
theorem Front1.own {w : World} {B g n : Nat} {d : List (List UInt8)} (h : Front1 w B g n d) (hd : d.length = n) : w.ownsRow B 9 1 (.slice (some ⟨g, 0, none⟩) n n) n (wcells d) := by
  obtain ⟨xs, ho, ht⟩ := h
  have hl := ho.1
  rw [List.take_of_length_le (by omega)] at ht
  rw [← ht]; exact ho
theorem Front1.put {w : World} {B g n k : Nat} {d d' : List (List UInt8)} {x : List UInt8} (h : Front1 w B g n d) (hk : k < n) (hd : d.length = k) (he : d' = d ++ [x]) :
    Front1 (w.setCell ⟨g, k, none⟩ (strV x)) B g n d' := by
  obtain ⟨xs, ho, ht⟩ := h
  refine ⟨_, (ho.stored k (strV x)).1, ?_⟩
  have hl := ho.1
  subst he
  rw [List.length_append, hd, List.length_singleton]
  rw [hd] at ht
  have h1 : k < (xs.set k (strV x)).length := by rw [List.length_set]; omega
  rw [List.take_succ_eq_append_getElem h1, List.take_set_of_le (Nat.le_refl _), ht, List.getElem_set_self]
  simp [wcells]
theorem Front1.stays {w w' : World} {B g n : Nat} {d : List (List UInt8)} (h : Front1 w B g n d) (hb : Below w.heap.size w w') : Front1 w' B g n d := by
  obtain ⟨xs, ho, ht⟩ := h
  exact ⟨xs, own_stays ho hb, ht⟩
theorem Front1.base {w : World} {B g n : Nat} {d : List (List UInt8)} (h : Front1 w B g n d) : B ≤ g ∧ g < w.heap.size := by
  obtain ⟨xs, ho, ht⟩ := h
  exact ho.lt g rfl
theorem Front1.warm {w : World} {B g n : Nat} {d : List (List UInt8)} (h : Front1 w B g n d) (j : Nat) : w.frozen? ⟨g, j, none⟩ = false := by
  obtain ⟨xs, ho, ht⟩ := h
  exact ho.frozenAt j
theorem Front1.cell {w : World} {B g n : Nat} {d : List (List UInt8)} (h : Front1 w B g n d) (j : Nat) (hj : j < n) : ∃ u, w.cell? ⟨g, j, none⟩ = some u := by
  obtain ⟨xs, ho, ht⟩ := h
  have hl := ho.1
  exact ⟨xs[j]'(by omega), by rw [ho.cellAt j (by omega), List.getElem?_eq_getElem]⟩
theorem join_bytes (L : List (List UInt8)) : (⟨(Lib.join ((L.map ba).map (·.data.toList)) ((⟨#[32]⟩ : ByteArray).data.toList)).toArray⟩ : ByteArray) = ba (joinB L) := by
  rw [List.map_map]
  have e : (fun x : List UInt8 => (ba x).data.toList) = id := rfl
  rw [show ((fun x : ByteArray => x.data.toList) ∘ ba) = id from rfl, List.map_id]
  show ba (Lib.join L [32]) = _
  rw [join_eq]
set_option maxHeartbeats 4000000 in
set_option maxRecDepth 100000 in
theorem join_any (a : Option Addr) (n c : Nat) (T : List Tk) (w : World) (hn : n = T.length) (hN : n ≤ 1000) (hR : RdT w a T) (hj : (joinB (texts T)).length ≤ 140737488355328) :
    Calls Tryd.prog 26 #[.slice a n c] w fun e w' => e = .returned (.string (ba (joinB (texts T)))) ∧ Below w.heap.size w w' := by
  have hl := texts_len T
  have hn1 : n ≤ T.length := by omega
  have hn2 : T.length ≤ n := by omega
  have hl1 : (texts T).length ≤ n := by omega
  have hl2 : n ≤ (texts T).length := by omega
  have hmk := fun w => run_make_row' (P := Tryd.prog) 42 9 (.string ⟨#[]⟩) 16 Tryd.underlying42 info9 rfl .i64 .i64 n (by omega) (by omega) w
  have Hend := Lib.hid (show (texts T).take n = texts T by rw [List.take_of_length_le (by omega)])
  have Hlen := Lib.hid hl
  have Hn := Lib.hid hn
  clear hn hl
  have hs0 : ∀ G, w.heap.size = G → Front1 (w.alloc (.cells (madeCells #[.string ⟨#[]⟩] n) 9)) w.heap.size G n [] := by
    rintro G rfl
    exact ⟨_, World.ownsRow_lit (base := w.heap.size) (e := 9) (size := 1) w (madeCells #[.string ⟨#[]⟩] n) n (Nat.le_refl _) (by unfold maxLen; omega) (by rw [size_madeCells]; omega), rfl⟩
  have hb0 := below1 (B := w.heap.size) (w := w) (.cells (madeCells #[.string ⟨#[]⟩] n) 9) (Nat.le_refl _)
  go_enter Tryd.func26, Tryd.ntmps26
  go_wp2_with fail
  generalize hGe : w.heap.size = G
  have hF := hs0 G hGe
  have hG : w.heap.size ≤ G := Nat.le_of_eq hGe
  clear hGe hs0
  generalize w.alloc (.cells (madeCells #[.string ⟨#[]⟩] n) 9) = W0 at *
  go_loopw [11] (fun v wx => ∃ k : Nat, v = .int .i64 k ∧ k ≤ n ∧ Front1 wx w.heap.size G n ((texts T).take k) ∧ Below w.heap.size w wx) (fun v _ => n - (intOf v).toNat)
  case atStart => exact ⟨0, rfl, Nat.zero_le _, hF, hb0⟩
  case round =>
    clear hF hb0
    obtain ⟨k, rfl, hk, hF, hb⟩ := hrel
    have hsz := hb.size
    by_cases hlt : k < n
    · have hz : (k : Int) < (n : Int) := by omega
      obtain ⟨b, o, rfl, hbl, c0, c1⟩ := (hR.stays hb) k (by omega)
      have hg : (texts T).getD k [] = (T[k]'(by omega)).1 := by
        unfold texts; rw [List.getD_eq_getElem?_getD, List.getElem?_map, List.getElem?_eq_getElem (by omega)]; rfl
      have HT : Hid ((texts T).take (k + 1) = (texts T).take k ++ [(T[k]'(by omega)).1]) := by
        rw [← hg, List.take_succ_eq_append_getElem (by omega), List.getD_eq_getElem?_getD, List.getElem?_eq_getElem (by omega)]
        exact Lib.hid rfl
      rw [strV_ba] at c0
      clear hg
      have HL : Hid (((texts T).take k).length = k) := Lib.hid (by rw [List.length_take]; omega)
      generalize T[k].1 = X at *
      generalize T[k].2 = N at *
      obtain ⟨u, hu⟩ := hF.cell k hlt
      have hf := hF.warm k
      have R0 := hF.put hlt HL.out HT.out
      have R1 := R0.stays (below1 (w := wr.setCell ⟨G, k, none⟩ (strV X)) (.cells #[.string (ba X), .int .i64 N] 30) (Nat.le_refl _))
      have R2 := (hb.setCell (p := ⟨G, k, none⟩) hG (strV X)).alloc (by simpa using hsz) (.cells #[.string (ba X), .int .i64 N] 30)
      rw [strV_ba] at R1 R2
      obtain ⟨hg1, hg2⟩ := hF.base
      have hne : G ≠ wr.heap.size := by omega
      clear hF hb R0
      go_wp2_with fail
      go_roundw
      case rel => exact ⟨k + 1, by go_num, by omega, R1, R2⟩
      case measure => simp [intOf]; omega
    · obtain rfl : k = n := by omega
      have hz : ¬ (k : Int) < (k : Int) := by omega
      have ho := hF.own (by rw [Hend.out, Hlen.out, Hn.out])
      rw [Hend.out] at ho
      have cJ := Tryd.strings_Join G 0 k ((texts T).map ba) ⟨#[32]⟩ wr (fun j x hj => by
          rw [Nat.zero_add]
          rw [List.getElem?_map] at hj
          obtain ⟨y, hy, rfl⟩ := Option.map_eq_some_iff.1 hj
          have hjl := (List.getElem?_eq_some_iff.1 hy).1
          rw [ho.cellAt j (by omega)]
          unfold wcells
          rw [List.getElem?_map, hy]; rfl) hF.base.2 (by rw [List.length_map]; omega) (by rw [List.length_map]; omega)
          (by rw [List.map_map, show ((fun x : ByteArray => x.data.toList) ∘ ba) = id from rfl, List.map_id]; show (Lib.join (texts T) [32]).length ≤ _; rw [join_eq]; exact hj)
      rw [join_bytes, List.length_map, Hlen.out, ← Hn.out] at cJ
      clear hF ho
      go_wp2_with fail
      refine cJ.mono ?_
      rintro e w2 ⟨rfl, hb2⟩
      go_wp2_with fail
      go_ret
      exact ⟨rfl, below_grow hb hsz hb2⟩
end Go.Proofs.YtheemefggkcfbaaDoor
