import Derived.Test.YtheemefggkcfbaaDoorT8
import Derived.Deep.DeepCutAuto
import Derived.Deep.CutBlock
namespace Go.Proofs.YtheemefggkcfbaaDoor
open Go Go.Lib Go.RowKit Go.Shelf
def szOf : Value → Nat
  | .string s => s.size
  | _ => 0
theorem snoc_of (l : List UInt8) (h : l ≠ []) : ∃ m b, l = m ++ [b] := ⟨l.dropLast, l.getLast h, (List.dropLast_concat_getLast h).symm⟩
theorem trimQ_snoc (m : List UInt8) (b : UInt8) : trimQ (m ++ [b]) = if quoteL.contains b then trimQ m else m ++ [b] := by
  unfold trimQ Lib.trimRightS
  rw [List.reverse_append, List.reverse_singleton, List.singleton_append, List.dropWhile_cons]
  split
  · rfl
  · simp
theorem lastB_snoc (m : List UInt8) (b : UInt8) : lastB (m ++ [b]) = b.toNat := by
  unfold lastB
  rw [if_neg (by simp)]
  simp
theorem quote_byte (b : UInt8) : quoteL.contains b = (b.toNat == 34 || b.toNat == 39 || b.toNat == 41 || b.toNat == 93) := by
  unfold quoteL
  simp only [List.contains_cons, List.contains_nil, Bool.or_false]
  have e : ∀ k : UInt8, (b == k) = (b.toNat == k.toNat) := fun k => Bool.eq_iff_iff.2 (by simp [← UInt8.toNat_inj])
  rw [e, e, e, e]
  simp [Bool.or_assoc]
theorem trimQ_nil : trimQ [] = [] := rfl
/-- One step of the reference's trimming. -/
theorem trim_step (l : List UInt8) (h : l ≠ []) : (lastB l = 34 ∨ lastB l = 39 ∨ lastB l = 41 ∨ lastB l = 93 → trimQ (l.take (l.length - 1)) = trimQ l) ∧ (¬ (lastB l = 34 ∨ lastB l = 39 ∨ lastB l = 41 ∨ lastB l = 93) → trimQ l = l) := by
  obtain ⟨m, b, rfl⟩ := snoc_of l h
  rw [lastB_snoc, trimQ_snoc, quote_byte]
  constructor
  · intro hq
    rw [if_pos (by simp; omega)]
    simp
  · intro hq
    rw [if_neg (by simp; omega)]
theorem slc_last (x : ByteArray) (h : 1 ≤ x.size) (w : World) : (Instr.slice 9 (.string x) none (some (.int .i64 ((x.size : Int) - 1))) none).run Tryd.prog w = .ok (.string (ba (x.data.toList.take (x.data.toList.length - 1)))) w := by
  have e : (x.size : Int) - 1 = ((x.size - 1 : Nat) : Int) := by omega
  rw [e]
  have e2 : x.extract 0 (x.size - 1) = ba (x.data.toList.take (x.data.toList.length - 1)) := by
    apply ByteArray.ext
    apply Array.toList_inj.1
    rw [extract_data, size_eq]
    simp [ba]
  rw [← e2]
  rw [run_slice_string_h (P := Tryd.prog) w 9 x Tryd.underlying9 .i64 ((x.size - 1 : Nat) : Int) (by omega) (by omega)]
  rfl
set_option maxHeartbeats 4000000 in
set_option maxRecDepth 100000 in
theorem rstrength_any (s t : ByteArray) (w : World) (hs : s.size < 4294967281) (ht : t.size < 4294967281) :
    Calls Tryd.prog 22 #[.string s, .string t] w fun e w' => e = .returned (.int .i64 (strW s.data.toList t.data.toList)) ∧ Below w.heap.size w w' := by
  have cS := fun w => rsmall_any s w (by omega)
  have cN := fun w => rsmall_any t w (by omega)
  have cA := fun w => rtight_any (ba (low s.data.toList)) w
  have cJ := fun w => rjoined_any (ba (low t.data.toList)) w
  have hm := minus_eq s
  have he := empty_eq (trimQ s.data.toList)
  have hix := idx_ba (trimQ s.data.toList)
  have hdef := strW_def s.data.toList t.data.toList
  have hTl : (ba (trimQ s.data.toList)).size < 4294967281 := by
    have h := trimQ_len s.data.toList
    rw [← size_eq] at h
    rw [ba_size]; omega
  have hTp : trimQ s.data.toList ≠ [] → 1 ≤ (ba (trimQ s.data.toList)).size := fun h => by
    rw [ba_size]; exact List.length_pos_iff.2 h
  have hB0 : trimQ s.data.toList = [] → lastB (trimQ s.data.toList) = 0 := fun h => by rw [h]; rfl
  obtain ⟨T, hTT⟩ : ∃ T, trimQ s.data.toList = T := ⟨_, rfl⟩
  have HTT := Lib.hid hTT
  rw [show (ba (low s.data.toList)).data.toList = low s.data.toList from rfl] at cA
  rw [show (ba (low t.data.toList)).data.toList = low t.data.toList from rfl] at cJ
  change ∀ w, Calls Tryd.prog 65 #[.string s] w fun e w' => e = .returned (.string (ba (low s.data.toList))) ∧ Below w.heap.size w w' at cS
  change ∀ w, Calls Tryd.prog 65 #[.string t] w fun e w' => e = .returned (.string (ba (low t.data.toList))) ∧ Below w.heap.size w w' at cN
  rw [hTT] at hdef he hix hTl hTp hB0
  clear hTT
  generalize strW s.data.toList t.data.toList = Z at *
  generalize ba (low s.data.toList) = S1 at *
  generalize ba (low t.data.toList) = T1 at *
  generalize memW (low s.data.toList) tightW = M1 at *
  generalize memW (low t.data.toList) joinedW = M2 at *
  have Hdef := Lib.hid hdef
  have Hm := Lib.hid hm
  have He := Lib.hid he
  have HB0 := Lib.hid hB0
  clear hdef hm he hB0
  go_enter Tryd.func22, Tryd.ntmps22
  go_upto_block 0 with fail
  go_cut [5] (fun s5 wx => s5 = .string (ba T) ∧ w = wx)
  case first =>
    go_wp2_with fail
    go_loop [5] (fun v => ∃ x : ByteArray, v = .string x ∧ x.size < 4294967281 ∧ Hid (trimQ x.data.toList = T)) (fun v => szOf v)
    case atStart => exact ⟨s, rfl, hs, HTT⟩
    case round =>
      clear hix hTl hTp He HB0 Hdef Hm HTT cS cN cA cJ
      obtain ⟨x, rfl, hxs, HX⟩ := hrel
      by_cases hx : x.data.toList = []
      · have hz : ¬ (0 : Int) < (x.size : Int) := by rw [size_eq, hx]; simp
        have HT : Hid (x = ba T) := by
          have h := HX.out
          rw [hx, trimQ_nil] at h
          refine Lib.hid (ByteArray.ext (Array.toList_inj.1 ?_))
          rw [hx, ← h]; rfl
        clear hx
        go_wp2_with fail
        go_meet
        exact ⟨by rw [HT.out], rfl⟩
      · have hp : 0 < x.data.toList.length := List.length_pos_iff.2 hx
        have hp1 : 1 ≤ x.size := by rw [size_eq]; exact hp
        have hz : (0 : Int) < (x.size : Int) := by omega
        have hix := idx_ba x.data.toList hx
        have hsl := slc_last x hp1
        obtain ⟨st1, st2⟩ := trim_step x.data.toList hx
        have hlen : (ba (x.data.toList.take (x.data.toList.length - 1))).size + 1 = x.size := by
          rw [ba_size, List.length_take, size_eq]; omega
        rw [show ba x.data.toList = x from rfl] at hix
        have hlist : (ba (x.data.toList.take (x.data.toList.length - 1))).data.toList = x.data.toList.take (x.data.toList.length - 1) := rfl
        generalize ba (x.data.toList.take (x.data.toList.length - 1)) = Y at *
        rw [← hlist] at st1
        generalize lastB x.data.toList = L at *
        have go : (L = 34 ∨ L = 39 ∨ L = 41 ∨ L = 93) → Hid (trimQ Y.data.toList = T) := fun h => Lib.hid ((st1 h).trans HX.out)
        have stop : ¬ (L = 34 ∨ L = 39 ∨ L = 41 ∨ L = 93) → Hid (x = ba T) := fun h => by
          have h2 := HX.out
          rw [st2 h] at h2
          exact Lib.hid (ByteArray.ext (Array.toList_inj.1 h2))
        clear st1 st2 hlist hx HX
        by_cases c1 : L = 34
        · subst c1
          have G := go (by simp)
          clear go stop
          go_wp2_with fail
          go_round
          case rel => exact ⟨Y, rfl, by omega, G⟩
          case measure => simp [szOf]; omega
        · by_cases c2 : L = 39
          · subst c2
            have G := go (by simp)
            clear go stop
            go_wp2_with fail
            go_round
            case rel => exact ⟨Y, rfl, by omega, G⟩
            case measure => simp [szOf]; omega
          · by_cases c3 : L = 41
            · subst c3
              have G := go (by simp)
              clear go stop
              go_wp2_with fail
              go_round
              case rel => exact ⟨Y, rfl, by omega, G⟩
              case measure => simp [szOf]; omega
            · by_cases c4 : L = 93
              · subst c4
                have G := go (by simp)
                clear go stop
                go_wp2_with fail
                go_round
                case rel => exact ⟨Y, rfl, by omega, G⟩
                case measure => simp [szOf]; omega
              · have G := stop (by omega)
                have z1 : ((L : Int) == 34) = false := by simp; omega
                have z2 : ((L : Int) == 39) = false := by simp; omega
                have z3 : ((L : Int) == 41) = false := by simp; omega
                have z4 : ((L : Int) == 93) = false := by simp; omega
                clear go stop c1 c2 c3 c4
                go_wp2_with fail
                go_meet
                exact ⟨by rw [G.out], rfl⟩
  case rest =>
    obtain ⟨rfl, rfl⟩ := hcut
    clear HTT
    generalize lastB T = B at *
    go_upto_if 50 with fail
    obtain ⟨E, hE⟩ : ∃ E, (ba T).toList.isEmpty = E := ⟨_, rfl⟩
    go_cut [6] (fun s6 wx => s6 = .int .u8 B ∧ w = wx)
    case first =>
      cases E
      · have hT : T ≠ [] := by rw [He.out] at hE; intro h'; simp [h'] at hE
        have hix1 := hix hT
        have hTp1 := hTp hT
        have hz : (0 : Int) < ((ba T).size : Int) := by omega
        clear hT hE
        go_wp2_with fail
        go_meet
        exact ⟨rfl, rfl⟩
      · have hT : T = [] := by rw [He.out] at hE; simpa using hE
        have hB := Lib.hid (HB0.out hT)
        have hz : ¬ (0 : Int) < ((ba T).size : Int) := by rw [ba_size, hT]; simp
        clear hT hE
        go_wp2_with fail
        go_meet
        exact ⟨by rw [hB.out]; rfl, rfl⟩
    case rest =>
      obtain ⟨rfl, rfl⟩ := hcut
      clear hix hTl hTp He HB0 hE
      have fin : ∀ n : Int, Z = n → Ending.returned (.int .i64 n) = Ending.returned (.int .i64 Z) := fun n h => by rw [h]
      have Fin := Lib.hid fin
      clear fin
      by_cases h46 : B = 46
      · subst h46
        have HZ : Hid (Z = 5) := by have h := Hdef.out; simp at h; exact Lib.hid h
        clear Hdef
        go_wp2_with fail
        go_ret
        exact ⟨Fin.out _ HZ.out, Below.refl _ _⟩
      by_cases h33 : B = 33
      · subst h33
        have HZ : Hid (Z = 5) := by have h := Hdef.out; simp at h; exact Lib.hid h
        clear Hdef
        go_wp2_with fail
        go_ret
        exact ⟨Fin.out _ HZ.out, Below.refl _ _⟩
      by_cases h63 : B = 63
      · subst h63
        have HZ : Hid (Z = 5) := by have h := Hdef.out; simp at h; exact Lib.hid h
        clear Hdef
        go_wp2_with fail
        go_ret
        exact ⟨Fin.out _ HZ.out, Below.refl _ _⟩
      by_cases h58 : B = 58
      · subst h58
        have HZ : Hid (Z = 4) := by have h := Hdef.out; simp at h; exact Lib.hid h
        clear Hdef
        go_wp2_with fail
        go_ret
        exact ⟨Fin.out _ HZ.out, Below.refl _ _⟩
      by_cases h59 : B = 59
      · subst h59
        have HZ : Hid (Z = 4) := by have h := Hdef.out; simp at h; exact Lib.hid h
        clear Hdef
        go_wp2_with fail
        go_ret
        exact ⟨Fin.out _ HZ.out, Below.refl _ _⟩
      have z46 : ((B : Int) == 46) = false := by simp; omega
      have z33 : ((B : Int) == 33) = false := by simp; omega
      have z63 : ((B : Int) == 63) = false := by simp; omega
      have z58 : ((B : Int) == 58) = false := by simp; omega
      have z59 : ((B : Int) == 59) = false := by simp; omega
      by_cases hw : s.data.toList = minusL
      · have hm1 : (s.toList == [45]) = true := by rw [Hm.out]; simp [hw]
        have HZ : Hid (Z = 4) := by have h := Hdef.out; simp [h46, h33, h63, h58, h59, hw] at h; exact Lib.hid h
        clear Hdef
        clear hw
        go_wp2_with fail
        go_ret
        exact ⟨Fin.out _ HZ.out, Below.refl _ _⟩
      have hm1 : (s.toList == [45]) = false := by rw [Hm.out]; simp [hw]
      by_cases h44 : B = 44
      · subst h44
        have HZ : Hid (Z = 3) := by have h := Hdef.out; simp [hw] at h; exact Lib.hid h
        clear Hdef
        clear hw
        go_wp2_with fail
        go_ret
        exact ⟨Fin.out _ HZ.out, Below.refl _ _⟩
      have z44 : ((B : Int) == 44) = false := by simp; omega
      cases M1
      · cases M2
        · have HZ : Hid (Z = 1) := by have h := Hdef.out; simp [h46, h33, h63, h58, h59, h44, hw] at h; exact Lib.hid h
          clear Hdef
          clear hw
          go_wp2_with fail
          refine (cS _).mono ?_
          rintro e w2 ⟨rfl, hb2⟩
          go_wp2_with fail
          refine (cA _).mono ?_
          rintro e w3 ⟨rfl, hb3⟩
          go_wp2_with fail
          refine (cN _).mono ?_
          rintro e w4 ⟨rfl, hb4⟩
          go_wp2_with fail
          refine (cJ _).mono ?_
          rintro e w5 ⟨rfl, hb5⟩
          go_wp2_with fail
          go_ret
          exact ⟨Fin.out _ HZ.out, below_trans (below_trans (below_trans hb2 hb3) hb4) hb5⟩
        · have HZ : Hid (Z = 2) := by have h := Hdef.out; simp [h46, h33, h63, h58, h59, h44, hw] at h; exact Lib.hid h
          clear Hdef
          clear hw
          go_wp2_with fail
          refine (cS _).mono ?_
          rintro e w2 ⟨rfl, hb2⟩
          go_wp2_with fail
          refine (cA _).mono ?_
          rintro e w3 ⟨rfl, hb3⟩
          go_wp2_with fail
          refine (cN _).mono ?_
          rintro e w4 ⟨rfl, hb4⟩
          go_wp2_with fail
          refine (cJ _).mono ?_
          rintro e w5 ⟨rfl, hb5⟩
          go_wp2_with fail
          go_ret
          exact ⟨Fin.out _ HZ.out, below_trans (below_trans (below_trans hb2 hb3) hb4) hb5⟩
      · have HZ : Hid (Z = 0) := by have h := Hdef.out; simp [h46, h33, h63, h58, h59, h44, hw] at h; exact Lib.hid h
        clear Hdef
        clear hw
        go_wp2_with fail
        refine (cS _).mono ?_
        rintro e w2 ⟨rfl, hb2⟩
        go_wp2_with fail
        refine (cA _).mono ?_
        rintro e w3 ⟨rfl, hb3⟩
        go_wp2_with fail
        go_ret
        exact ⟨Fin.out _ HZ.out, below_trans hb2 hb3⟩
end Go.Proofs.YtheemefggkcfbaaDoor
