import Derived.Test.YtheemefggkcfbaaDoorY2
namespace Go.Proofs.YtheemefggkcfbaaDoor
open Go Go.Lib Go.RowKit Go.Shelf
/-! ### the chapter's first example -/
def awT1 : List UInt8 := [119, 101, 32, 97, 114, 101, 32, 104, 101, 97, 114, 32, 110, 111, 119]
def awT2 : List UInt8 := [104, 101, 114, 101, 32, 110, 111, 119]
def awT4 : List UInt8 := [116, 104, 101, 121, 32, 119, 101, 114, 101, 32, 104, 101, 114, 101, 32, 110, 111, 119]
def awS1 : Sp := ((Sp.new 2).say awT1).1
def awS2 : Sp := (awS1.fix 2 awT2).1
def awS3 : Sp := awS2.take
def awS4 : Sp := awS3.take
def awS5 : Sp := (awS4.fix 4 awT4).1
theorem aw1 : ((Sp.new 2).say awT1).2 = 0 := by kernel_rfl
theorem aw2 : (awS1.fix 2 awT2).2 = 0 := by kernel_rfl
theorem aw3 : awS2.can = true ∧ awS2.peek = ([119, 101], false, false) := ⟨by kernel_rfl, by kernel_rfl⟩
theorem aw4 : awS3.can = true ∧ awS3.peek = ([97, 114, 101], false, false) := ⟨by kernel_rfl, by kernel_rfl⟩
theorem aw5 : awS4.can = false ∧ awS4.peek = ([], false, false) := ⟨by kernel_rfl, by kernel_rfl⟩
theorem aw6 : (awS4.fix 4 awT4).2 = 0 := by kernel_rfl
theorem aw7 : awS5.opn = [([45, 45], false, true), ([116, 104, 101, 121], false, true), ([119, 101, 114, 101], false, true), ([104, 101, 114, 101], false, true), ([110, 111, 119], false, true)] := by kernel_rfl
theorem aw8 : awS5.said = [[116, 104, 101, 121], [119, 101, 114, 101], [104, 101, 114, 101], [110, 111, 119]] := by kernel_rfl
theorem awok1 : awS1.ok := say_ok (new_ok (by decide)) _
theorem awok2 : awS2.ok := fix_ok awok1 _ _
theorem awok3 : awS3.ok := take_ok awok2
theorem awok4 : awS4.ok := take_ok awok3
theorem awok5 : awS5.ok := fix_ok awok4 _ _
set_option maxHeartbeats 8000000 in
set_option maxRecDepth 100000 in
theorem awake_any (w : World) (hE : Env w) : Calls Tryd.prog 31 #[] w fun e w' => e = .returned (.bool true) ∧ Below w.heap.size w w' := by
  go_enter Tryd.func31, Tryd.ntmps31
  go_wp2_with fail
  refine (new_ow (w0 := w) 2 (by decide) (Below.refl _ _)).mono ?_
  rintro e w1 ⟨b, rfl, hA, hb⟩
  have A := Lib.hid (hA.weaken (G := fun _ => False) (fun _ h => h.elim))
  clear hA hb
  go_wp2_with fail
  refine (say_ow A.out (new_ok (by decide)) ⟨#[119, 101, 32, 97, 114, 101, 32, 104, 101, 97, 114, 32, 110, 111, 119]⟩ (by decide) hE).mono ?_
  rintro e w2 ⟨he, hA, hK⟩
  have A2 : Hid (Ow w w2 b awS1 (fun _ => False)) := Lib.hid hA
  clear A hA hK
  obtain rfl : e = .returned (.int .i64 0) := by rw [he]; exact congrArg (fun z => Ending.returned (.int .i64 z)) aw1
  clear he
  go_wp2_with fail
  refine (fix_ow A2.out awok1 2 ⟨#[104, 101, 114, 101, 32, 110, 111, 119]⟩ (by decide) hE).mono ?_
  rintro e w3 ⟨he, hA, hK⟩
  have A3 : Hid (Ow w w3 b awS2 (fun _ => False)) := Lib.hid hA
  clear A2 hA hK
  obtain rfl : e = .returned (.int .i64 0) := by rw [he]; exact congrArg (fun z => Ending.returned (.int .i64 z)) aw2
  clear he
  go_wp2_with fail
  refine (take_ow A3.out awok2).mono ?_
  rintro e w4 ⟨rfl, hA, hK⟩
  have A4 : Hid (Ow w w4 b awS3 (fun _ => False)) := Lib.hid hA
  clear A3 hA hK
  rw [aw3.1, aw3.2, spkV_ba]
  go_wp2_with fail
  have A5 := Lib.hid (A4.out.below (below1 (.cells #[.string (ba [119, 101]), .bool false, .bool false] 59) (Nat.le_refl _)))
  clear A4
  refine (take_ow A5.out awok3).mono ?_
  rintro e w5 ⟨rfl, hA, hK⟩
  have h3 := hK.obj (heap_alloc_new w4 _) (Or.inr ⟨Nat.le_refl _, by simp⟩)
  have A6 : Hid (Ow w w5 b awS4 (fun k => k = w4.heap.size)) := Lib.hid (hA.weaken (fun k e => Or.inr (by subst e; exact ⟨Nat.le_refl _, by simp⟩)))
  clear A5 hA hK
  generalize w4.heap.size = B1 at *
  rw [aw4.1, aw4.2, spkV_ba]
  have H3 := Lib.hid h3
  clear h3
  go_wp2_with fail
  have hb5 := below1 (w := w5) (.cells #[.string (ba [97, 114, 101]), .bool false, .bool false] 59) (Nat.le_refl _)
  have A7 := Lib.hid (A6.out.below hb5)
  refine (peek_ow A7.out awok4).mono ?_
  rintro e w6 ⟨rfl, hA, hb6⟩
  have H4 := Lib.hid (hb6.block _ (by simp) |>.trans (heap_alloc_new w5 (.cells #[.string (ba [97, 114, 101]), .bool false, .bool false] 59)))
  have H3' := Lib.hid (blk_stay (blk_stay H3.out hb5) hb6)
  have A8 : Hid (Ow w w6 b awS4 (fun k => k = B1 ∨ k = w5.heap.size)) := Lib.hid (hA.weaken (fun k e => by
    rcases e with e | e
    · exact Or.inl (Or.inl e)
    · exact Or.inl (Or.inr (by subst e; exact ⟨Nat.le_refl _, by simp⟩))))
  clear A6 A7 hA H3 hb5 hb6
  generalize w5.heap.size = B2 at *
  rw [aw5.1, aw5.2, spkV_ba]
  obtain ⟨x0, x1, x2, xf, xl⟩ := blk3 H3'.out
  obtain ⟨y0, y1, y2, yf, yl⟩ := blk3 H4.out
  have q1 : (ba [119, 101]).toList = [119, 101] := by rw [toList_data]; rfl
  have q2 : (ba [97, 114, 101]).toList = [97, 114, 101] := by rw [toList_data]; rfl
  go_wp2_with fail
  clear q1 q2 x0 x1 x2 xf xl y0 y1 y2 yf yl H3' H4
  have A9 := Lib.hid (A8.out.below (below1 (.cells #[.string (ba []), .bool false, .bool false] 59) (Nat.le_refl _)))
  refine (fix_ow A9.out awok4 4 ⟨#[116, 104, 101, 121, 32, 119, 101, 114, 101, 32, 104, 101, 114, 101, 32, 110, 111, 119]⟩ (by decide) hE).mono ?_
  rintro e w7 ⟨he, hA, hK⟩
  have A10 : Hid (Ow w w7 b awS5 (fun _ => False)) := Lib.hid (hA.weaken (fun _ h => h.elim))
  clear A8 A9 hA hK
  obtain rfl : e = .returned (.int .i64 0) := by rw [he]; exact congrArg (fun z => Ending.returned (.int .i64 z)) aw6
  clear he
  go_wp2_with fail
  refine (open_ow A10.out awok5).mono ?_
  rintro e w8 ⟨v, rfl, ho, hA, hb8⟩
  have A11 := Lib.hid (hA.weaken (G := fun _ => False) (fun _ h => h.elim))
  clear A10 hA hb8
  rw [aw7] at ho
  rcases ho.2 with ⟨_, e⟩ | ⟨g, cap, cur, rfl, _, hg, _, _, _, _⟩
  · simp at e
  have cel : ∀ j u, (scells [([45, 45], false, true), ([116, 104, 101, 121], false, true), ([119, 101, 114, 101], false, true), ([104, 101, 114, 101], false, true), ([110, 111, 119], false, true)])[j]? = some u → w8.cell? ⟨g, j, none⟩ = some u := by
    intro j u hu
    have := ho.cells rfl j u hu
    rwa [add_addr, Nat.zero_add] at this
  have z0 : w8.cell? ⟨g, 0, none⟩ = some (.string (ba [45, 45])) := cel 0 _ rfl
  have z1 : w8.cell? ⟨g, 1, none⟩ = some (.bool false) := cel 1 _ rfl
  have z2 : w8.cell? ⟨g, 2, none⟩ = some (.bool true) := cel 2 _ rfl
  have y0 : w8.cell? ⟨g, 12, none⟩ = some (.string (ba [110, 111, 119])) := cel 12 _ rfl
  have y1 : w8.cell? ⟨g, 13, none⟩ = some (.bool false) := cel 13 _ rfl
  have y2 : w8.cell? ⟨g, 14, none⟩ = some (.bool true) := cel 14 _ rfl
  have xl := heap_lt hg
  have q1 : (ba [45, 45]).toList = [45, 45] := by rw [toList_data]; rfl
  have q2 : (ba [110, 111, 119]).toList = [110, 111, 119] := by rw [toList_data]; rfl
  clear cel hg ho
  simp only [List.length_cons, List.length_nil, Nat.zero_add, Nat.reduceAdd]
  go_wp2_with fail
  refine (said_ow A11.out awok5).mono ?_
  rintro e w9 ⟨v, rfl, hr, hA, hb9⟩
  have A12 := Lib.hid (hA.dn)
  clear A11 hA hb9 z0 z1 z2 y0 y1 y2 xl q1 q2
  rw [aw8] at hr
  rcases hr.2 with ⟨_, e⟩ | ⟨g2, off2, cap2, rfl, hg2, hc2, hx2⟩
  · cases e
  go_wp2_with fail
  have hj := Tryd.strings_Join g2 off2 cap2 [⟨#[116, 104, 101, 121]⟩, ⟨#[119, 101, 114, 101]⟩, ⟨#[104, 101, 114, 101]⟩, ⟨#[110, 111, 119]⟩] ⟨#[32]⟩ w9 (fun j x hj => hx2 j _ (by
    match j, hj with
    | 0, e => injection e with e; subst e; rfl
    | 1, e => injection e with e; subst e; rfl
    | 2, e => injection e with e; subst e; rfl
    | 3, e => injection e with e; subst e; rfl
    | j + 4, e => cases e)) hg2 (by decide) hc2 (by decide)
  refine hj.mono ?_
  clear hj
  rintro e w10 ⟨rfl, hb10⟩
  have q3 : (⟨(Lib.join (([⟨#[116, 104, 101, 121]⟩, ⟨#[119, 101, 114, 101]⟩, ⟨#[104, 101, 114, 101]⟩, ⟨#[110, 111, 119]⟩] : List ByteArray).map (·.data.toList)) (⟨#[32]⟩ : ByteArray).data.toList).toArray⟩ : ByteArray) = ⟨#[116, 104, 101, 121, 32, 119, 101, 114, 101, 32, 104, 101, 114, 101, 32, 110, 111, 119]⟩ := by kernel_rfl
  rw [q3]
  clear q3
  have q4 : (⟨#[116, 104, 101, 121, 32, 119, 101, 114, 101, 32, 104, 101, 114, 101, 32, 110, 111, 119]⟩ : ByteArray).toList = [116, 104, 101, 121, 32, 119, 101, 114, 101, 32, 104, 101, 114, 101, 32, 110, 111, 119] := by rw [toList_data]
  go_wp2_with fail
  go_ret
  exact ⟨rfl, A12.out.trans (hb10.mono A12.out.size)⟩
end Go.Proofs.YtheemefggkcfbaaDoor
