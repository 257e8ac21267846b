import Derived.Test.YtheemefggkcfbaaDoorY3
namespace Go.Proofs.YtheemefggkcfbaaDoor
open Go Go.Lib Go.RowKit Go.Shelf
theorem cut_size (s : ByteArray) (n : Nat) : (s.extract 0 (min (s.size : Int) n).toNat).size ≤ n := by
  rw [ByteArray.size_extract]; omega
theorem word_any2 (s : ByteArray) (w : World) (hs : s.size ≤ 65536) (hE : Env w) :
    Calls Tryd.prog 34 #[.string s] w fun e w' => e = .returned (.int .i64 (wordE s.data.toList)) ∧ Below w.heap.size w w' := word_any s w (by omega) hE
theorem spkL_len {s : ByteArray} (hs : s.size ≤ 65536) : (spkL s.data.toList).length ≤ 100000 := by
  unfold spkL
  split
  · have := spGo_len s.data.toList []
    have e : s.data.toList.length = s.size := rfl
    unfold spW
    omega
  · simp
set_option maxHeartbeats 8000000 in
set_option maxRecDepth 100000 in
theorem law_words (s : ByteArray) (w : World) (hs : s.size < 9223372036854775807) (hE : Env w) :
    Calls Tryd.prog 10 #[.string s] w fun e w' => e = .returned (.bool true) ∧ Below w.heap.size w w' := by
  go_enter Tryd.func10, Tryd.ntmps10
  go_wp2_with fail
  refine (awake_any w hE).mono ?_
  rintro e w1 ⟨rfl, hb1⟩
  go_wp2_with fail
  have hT : (s.extract 0 (min (s.size : Int) 200).toNat).size ≤ 65536 := Nat.le_trans (cut_size s 200) (by decide)
  generalize s.extract 0 (min (s.size : Int) 200).toNat = T at *
  refine (spk_any T w1 hT (hE.below hb1)).mono ?_
  rintro e w2 ⟨v1, rfl, ho1, hb2⟩
  have hb12 := hb1.trans (hb2.mono hb1.size)
  clear hb1
  go_wp2_with fail
  refine (rspk_any T w2 hT (hE.below hb12)).mono ?_
  rintro e w3 ⟨v2, rfl, ho2, hb3⟩
  have hb13 := hb12.trans (hb3.mono hb12.size)
  have ho1' := own_stays ho1 hb3
  clear hb12 ho1 hb2
  go_wp2_with fail
  refine (word_any2 T w3 hT (hE.below hb13)).mono ?_
  rintro e w4 ⟨rfl, hb4⟩
  have hb14 := hb13.trans (hb4.mono hb13.size)
  have r1 := (RowR.of_own ho1').below hb4
  have r2 := (RowR.of_own ho2).below hb4
  clear hb13 ho1' ho2 hb3 hb4
  go_wp2_with fail
  refine (rword_any T w4 (by omega) (hE.below hb14)).mono ?_
  rintro e w5 ⟨rfl, hb5⟩
  have hb15 := hb14.trans (hb5.mono hb14.size)
  have s1 := r1.below hb5
  have s2 := r2.below hb5
  clear hb14 r1 r2 hb5
  go_wp2_with fail
  refine (texts_same w5 v1 v2 (spkL T.data.toList) s1 s2 (spkL_len hT)).mono ?_
  rintro e w6 ⟨rfl, hb6⟩
  have hb16 := hb15.trans (hb6.mono hb15.size)
  clear hb15 hb6 s1 s2
  go_wp2_with fail
  go_ret
  exact ⟨rfl, hb16⟩
end Go.Proofs.YtheemefggkcfbaaDoor
