import Derived.Test.YtheemefggkcfbaaDoorY8
namespace Go.Proofs.YtheemefggkcfbaaDoor
open Go Go.Lib Go.RowKit Go.Shelf
/-! ### a clone is independent -/
def clT : List UInt8 := [111, 110, 101, 32, 116, 119, 111, 32, 116, 104, 114, 101, 101]
def clS : Sp := ((Sp.new 1).say clT).1
theorem clok : clS.ok := say_ok (new_ok (by decide)) _
theorem cl1 : clS.opn.length = 3 := by kernel_rfl
theorem cl2 : clS.opn = [([111, 110, 101], false, false), ([116, 119, 111], false, false), ([116, 104, 114, 101, 101], false, false)] := by kernel_rfl
theorem cl3 : clS.said = [[111, 110, 101], [116, 119, 111], [116, 104, 114, 101, 101]] := by kernel_rfl
/-- A clone: another speaker, all of whose blocks are new. -/
theorem clone_ow {w0 w : World} {b : Nat} {S : Sp} {F : Nat → Prop} (h : Ow w0 w b S F) (hS : S.ok) :
    Calls Tryd.prog 49 #[ptr b] w fun e w' => ∃ b', e = .returned (ptr b') ∧ Ow w w' b' S (fun k => k < w.heap.size) ∧ Ow w0 w' b S (also F w w') ∧ Below w.heap.size w w' := by
  have h' := h
  obtain ⟨O, hA, hO, hF, hb⟩ := h'
  refine (clone_any w O b S hA hS).mono ?_
  rintro e w' ⟨b', rfl, hA', hb'⟩
  exact ⟨b', rfl, ⟨_, hA', fun k hk => ⟨hk.1, hk.2, fun g => by have := hk.1; omega⟩, fun k hk => by have := hb'.size; omega, hb'⟩, h.below hb', hb'⟩
set_option maxHeartbeats 8000000 in
set_option maxRecDepth 100000 in
theorem law_clones (s : ByteArray) (n : Int) (w : World) (hs : s.size < 9223372036854775807) (hE : Env w) :
    Calls Tryd.prog 14 #[.string s, .int .i64 n] w fun e w' => e = .returned (.bool true) ∧ Below w.heap.size w w' := by
  go_enter Tryd.func14, Tryd.ntmps14
  go_wp2_with fail
  refine (awake_any w hE).mono ?_
  rintro e w1 ⟨rfl, hb1⟩
  go_wp2_with fail
  have hT : (s.extract 0 (min (s.size : Int) 100).toNat).size ≤ 65536 := Nat.le_trans (cut_size s 100) (by decide)
  generalize s.extract 0 (min (s.size : Int) 100).toNat = T at *
  refine (new_ow (w0 := w) 1 (by decide) hb1).mono ?_
  rintro e w2 ⟨b, rfl, hA, hb2⟩
  have A := Lib.hid (hA.weaken (G := fun _ => False) (fun _ h => h.elim))
  clear hA hb2
  go_wp2_with fail
  refine (say_ow A.out (new_ok (by decide)) ⟨#[111, 110, 101, 32, 116, 119, 111, 32, 116, 104, 114, 101, 101]⟩ (by decide) hE).mono ?_
  rintro e w3 ⟨rfl, hA, _⟩
  have A2 : Hid (Ow w w3 b clS (fun _ => False)) := Lib.hid hA
  clear A hA
  generalize ((Sp.new 1).say ((⟨#[111, 110, 101, 32, 116, 119, 111, 32, 116, 104, 114, 101, 101]⟩ : ByteArray).data.toList)).2 = z1
  go_wp2_with fail
  refine (clone_ow A2.out clok).mono ?_
  rintro e w4 ⟨c, rfl, hC, hA, hb4⟩
  have C := Lib.hid hC
  have E3 := Lib.hid (hE.below A2.out.dn)
  clear hC hA hb4
  go_wp2_with fail
  refine (say_ow C.out clok T hT E3.out).mono ?_
  rintro e w5 ⟨rfl, hA, _⟩
  have C2 := Lib.hid hA
  have hok := say_ok clok T.data.toList
  clear C hA
  generalize (clS.say T.data.toList).1 = S2 at *
  generalize (clS.say T.data.toList).2 = z2 at *
  go_wp2_with fail
  refine (take_ow C2.out hok).mono ?_
  rintro e w6 ⟨rfl, hA, _⟩
  have C3 := Lib.hid hA
  have hok3 := take_ok hok
  clear C2 hA
  generalize S2.take = S3 at *
  generalize spkV S2.peek = z3 at *
  generalize S2.can = z4 at *
  go_wp2_with fail
  refine (fix_ow C3.out hok3 1 ⟨#[120]⟩ (by decide) E3.out).mono ?_
  rintro e w7 ⟨rfl, hA, _⟩
  have B := Lib.hid ((A2.out.below hA.dn).weaken (G := fun _ => False) (fun _ h => h.elim))
  clear C3 hA A2 E3 hok3 hok
  generalize (S3.fix 1 (⟨#[120]⟩ : ByteArray).data.toList).2 = z5
  go_wp2_with fail
  refine (open_ow B.out clok).mono ?_
  rintro e w8 ⟨v, rfl, ho, hA, hb8⟩
  rw [cl1] at ho
  have hx := ho.1
  rcases ho.2 with ⟨_, e⟩ | ⟨g, cap, cur, rfl, hg7, hg, hcp, _, _, _⟩
  · cases e
  have xl := heap_lt hg
  have B2 : Hid (Ow w w8 b clS (fun k => k = g)) := Lib.hid (hA.weaken (fun k e => Or.inr (by subst e; exact ⟨hg7, xl⟩)))
  have hwg : w.heap.size ≤ g := by have := B.out.dn.size; omega
  clear B hA hb8
  have z0 : ∃ u, w8.cell? ⟨g, 0, none⟩ = some u := by
    rw [cl2] at ho
    exact ⟨_, by have := ho.cells rfl 0 _ rfl; rwa [add_addr, Nat.zero_add] at this⟩
  obtain ⟨u0, z0⟩ := z0
  have zf : w8.frozen? ⟨g, 0, none⟩ = false := by simp [World.frozen?, hg]
  clear ho hx hg7 hg
  go_wp2_with fail
  have B3 := Lib.hid (B2.out.far (u := .string ⟨#[67, 72, 65, 78, 71, 69, 68]⟩) (o := 0) rfl hwg)
  refine (said_ow B3.out clok).mono ?_
  rintro e w9 ⟨v, rfl, hr, hA, hb9⟩
  have D := Lib.hid hA.dn
  clear B2 B3 hA hb9 z0 zf
  rw [cl3] at hr
  rcases hr.2 with ⟨_, e⟩ | ⟨g2, off2, cap2, rfl, hg2, hc2, hx2⟩
  · cases e
  go_wp2_with fail
  have hj := Tryd.strings_Join g2 off2 cap2 [⟨#[111, 110, 101]⟩, ⟨#[116, 119, 111]⟩, ⟨#[116, 104, 114, 101, 101]⟩] ⟨#[32]⟩ w9 (fun j x hj => hx2 j _ (by
    match j, hj with
    | 0, e => injection e with e; subst e; rfl
    | 1, e => injection e with e; subst e; rfl
    | 2, e => injection e with e; subst e; rfl
    | j + 3, e => cases e)) hg2 (by decide) hc2 (by decide)
  refine hj.mono ?_
  clear hj
  rintro e w10 ⟨rfl, hb10⟩
  have D2 := Lib.hid (D.out.trans (hb10.mono D.out.size))
  clear D hb10
  have q3 : (⟨(Lib.join (([⟨#[111, 110, 101]⟩, ⟨#[116, 119, 111]⟩, ⟨#[116, 104, 114, 101, 101]⟩] : List ByteArray).map (·.data.toList)) (⟨#[32]⟩ : ByteArray).data.toList).toArray⟩ : ByteArray) = ⟨#[111, 110, 101, 32, 116, 119, 111, 32, 116, 104, 114, 101, 101]⟩ := by kernel_rfl
  rw [q3]
  clear q3
  have q4 : (⟨#[111, 110, 101, 32, 116, 119, 111, 32, 116, 104, 114, 101, 101]⟩ : ByteArray).toList = [111, 110, 101, 32, 116, 119, 111, 32, 116, 104, 114, 101, 101] := by rw [toList_data]
  go_wp2_with fail
  refine (nil_peek w10).mono ?_
  rintro e w11 ⟨rfl, hb11⟩
  have D3 := Lib.hid (D2.out.trans (hb11.mono D2.out.size))
  clear D2 hb11
  rw [show (default : Spk) = ([], false, false) from rfl, spkV_ba]
  go_wp2_with fail
  refine (nil_take _).mono ?_
  rintro e w12 ⟨rfl, hb12⟩
  have D4 := Lib.hid ((D3.out.alloc D3.out.size (.cells #[.string (ba []), .bool false, .bool false] 59)).trans (hb12.mono (by have := D3.out.size; simp; omega)))
  clear D3 hb12
  rw [show (default : Spk) = ([], false, false) from rfl, spkV_ba]
  go_wp2_with fail
  have D5 := Lib.hid (D4.out.alloc D4.out.size (.cells #[.string (ba []), .bool false, .bool false] 59))
  clear D4
  generalize w12.alloc (.cells #[.string (ba []), .bool false, .bool false] 59) = w13 at *
  refine (nil_say _ T).mono ?_
  rintro e wq ⟨rfl, rfl⟩
  go_wp2_with fail
  refine (nil_break _).mono ?_
  rintro e wq ⟨rfl, rfl⟩
  go_wp2_with fail
  refine (nil_fix _ n T).mono ?_
  rintro e wq ⟨rfl, rfl⟩
  go_wp2_with fail
  refine (nil_flush _).mono ?_
  rintro e wq ⟨rfl, rfl⟩
  go_wp2_with fail
  refine (nil_open _).mono ?_
  rintro e wq ⟨rfl, rfl⟩
  go_wp2_with fail
  refine (nil_said _).mono ?_
  rintro e wq ⟨rfl, rfl⟩
  go_wp2_with fail
  refine (nil_clone _).mono ?_
  rintro e wq ⟨rfl, rfl⟩
  go_wp2_with fail
  go_ret
  exact ⟨rfl, D5.out⟩
end Go.Proofs.YtheemefggkcfbaaDoor
