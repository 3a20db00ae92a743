/-
  The checker's method operands, whatever the instruction: it hands back what the plain function says.
-/
import Derived.Test.YtmlmepbnjlepnaaChkOpsA
import Derived.Test.YtmlmepbnjlepnaaChkOpsB
import Derived.Test.YtmlmepbnjlepnaaChkOpsC
import Derived.Test.YtmlmepbnjlepnaaChkOpsD
namespace Go.Proofs.Ytmlmepbnjlepnaa
open Go.RowKit

theorem inB_iff {n b : Int} : inB n b = true ↔ 0 ≤ n ∧ n < b := by simp [inB]

theorem opsE_in {ps : List Pr} {p : Pr} {x : Ins} {k : Nat} (hk : k < 22) (hx : x.op = k) (hkn : (wantT k).known = true) :
    opsE ps p x = if (!(wantT k).a && decide (x.a ≠ 0)) || (!(wantT k).b && decide (x.b ≠ 0)) then 30 else if !okB ps p x then 33 else if !kindB ps x then 34 else 0 := by
  have h1 : inB (k : Int) 22 = true := by rw [inB_iff]; omega
  unfold opsE
  rw [hx, Int.toNat_natCast, h1, hkn]
  simp

theorem primT_length : primT.length = 92 := by decide +kernel

set_option maxHeartbeats 1000000 in
theorem operands_any (cb pb : Nat) (psa : Option Addr) (ps : List Pr) (pcap : Nat) (nm cv : Value) (pr : Bool) (ca : Option Addr) (ccap : Nat) (na : Option Addr) (ncap : Nat) (p : Pr) (x : Ins) (w : World) (h : ChkAt w cb pb (.slice psa ps.length pcap))
    (hn : ps.length ≤ 140737488351232) (hnc : p.nc ≤ 140737488351232) (hnn : p.nn ≤ 140737488351232)
    (hf : ∀ i, i < ps.length → ∃ b o, psa = some ⟨b, o, none⟩ ∧ b < w.heap.size ∧ w.cell? ⟨b, o + i * 7 + 2, none⟩ = some (.int .i64 (freeOf ps i))) :
    Calls Try.prog 22 #[.pointer (some ⟨cb, 0, none⟩), .agg #[nm, .int .i64 p.args, .int .i64 p.free, .bool pr, cv, .slice ca p.nc ccap, .slice na p.nn ncap], .agg #[.int .i64 x.op, .int .i64 x.a, .int .i64 x.b]] w
      fun e w' => e = .returned (.int .i64 (opsE ps p x)) ∧ Below w.heap.size w w' := by
  by_cases hin : inB x.op 22 = true
  · rw [inB_iff] at hin
    obtain ⟨k, hk⟩ := Int.eq_ofNat_of_zero_le hin.1
    have hk22 : k < 22 := by omega
    by_cases hkn : (wantT k).known = true
    · have E := opsE_in (ps := ps) (p := p) hk22 hk hkn
      rw [hk]
      by_cases hA : ((wantT k).a = false ∧ x.a ≠ 0)
      · have e : opsE ps p x = 30 := by rw [E, hA.1]; simp [hA.2]
        rw [e]
        exact ops_badA cb pb psa _ pcap nm cv _ _ pr ca _ ccap na _ ncap k x.a x.b w h hn hnc hnn hk22 hkn hA.1 (by simpa using hA.2)
      have hA' : (wantT k).a = true ∨ (x.a != 0) = false := by
        cases hq : (wantT k).a
        · right; simpa [hq] using hA
        · exact .inl rfl
      by_cases hB : ((wantT k).b = false ∧ x.b ≠ 0)
      · have e : opsE ps p x = 30 := by rw [E, hB.1]; simp [hB.2]
        rw [e]
        exact ops_badB cb pb psa _ pcap nm cv _ _ pr ca _ ccap na _ ncap k x.a x.b w h hn hnc hnn hk22 hkn hA' hB.1 (by simpa using hB.2)
      have E2 : opsE ps p x = if !okB ps p x then 33 else if !kindB ps x then 34 else 0 := by
        rw [E, if_neg]
        intro hh
        simp only [Bool.or_eq_true, Bool.and_eq_true, Bool.not_eq_true', decide_eq_true_eq] at hh
        rcases hh with hh | hh
        · exact hA hh
        · exact hB hh
      rw [E2]
      obtain ⟨xo, a, b⟩ := x
      dsimp only at hk hA hB hA' E E2 ⊢
      subst hk
      clear E E2 hA
      rcases k with _ | _ | _ | _ | _ | _ | _ | _ | _ | _ | _ | _ | _ | _ | _ | _ | _ | _ | _ | _ | _ | _ | k
      case zero => simp [wantT] at hkn
      case succ.zero =>
        have hb0 : b = 0 := by simpa [wantT] using hB
        cases hok : inB a p.nc
        · have e : okB ps p ⟨1, a, b⟩ = false := by simp [okB, hok]
          simp only [show ((0 + 1 : Nat) : Int) = 1 from rfl, e]
          exact ops_1_no cb pb psa _ pcap nm cv _ _ pr ca _ ccap na _ ncap a b w h hn hnc hnn hb0 hok
        · have e : okB ps p ⟨1, a, b⟩ = true := by simp [okB, hok]
          have e2 : kindB ps ⟨1, a, b⟩ = true := by simp [kindB]
          simp only [show ((0 + 1 : Nat) : Int) = 1 from rfl, e, e2]
          exact ops_1_yes cb pb psa _ pcap nm cv _ _ pr ca _ ccap na _ ncap a b w h hn hnc hnn hb0 hok
      case succ.succ.zero =>
        have hb0 : b = 0 := by simpa [wantT] using hB
        have e : okB ps p ⟨2, a, b⟩ = true := by simp [okB]
        have e2 : kindB ps ⟨2, a, b⟩ = true := by simp [kindB]
        simp only [show ((0 + 1 + 1 : Nat) : Int) = 2 from rfl, e, e2]
        exact ops_other cb pb psa _ pcap nm cv _ _ pr ca _ ccap na _ ncap 2 a b w h hn hnc hnn (by omega) hkn hA' (by simpa using hb0) rfl rfl rfl rfl rfl rfl rfl rfl rfl rfl rfl
      case succ.succ.succ.zero =>
        have hb0 : b = 0 := by simpa [wantT] using hB
        cases hok : inB a p.free
        · have e : okB ps p ⟨3, a, b⟩ = false := by simp [okB, hok]
          simp only [show ((0 + 1 + 1 + 1 : Nat) : Int) = 3 from rfl, e]
          exact ops_3_no cb pb psa _ pcap nm cv _ _ pr ca _ ccap na _ ncap a b w h hn hnc hnn hb0 hok
        · have e : okB ps p ⟨3, a, b⟩ = true := by simp [okB, hok]
          have e2 : kindB ps ⟨3, a, b⟩ = true := by simp [kindB]
          simp only [show ((0 + 1 + 1 + 1 : Nat) : Int) = 3 from rfl, e, e2]
          exact ops_3_yes cb pb psa _ pcap nm cv _ _ pr ca _ ccap na _ ncap a b w h hn hnc hnn hb0 hok
      case succ.succ.succ.succ.zero =>
        have hb0 : b = 0 := by simpa [wantT] using hB
        cases hok : inB a p.nn
        · have e : okB ps p ⟨4, a, b⟩ = false := by simp [okB, hok]
          simp only [show ((0 + 1 + 1 + 1 + 1 : Nat) : Int) = 4 from rfl, e]
          exact ops_4_no cb pb psa _ pcap nm cv _ _ pr ca _ ccap na _ ncap a b w h hn hnc hnn hb0 hok
        · have e : okB ps p ⟨4, a, b⟩ = true := by simp [okB, hok]
          have e2 : kindB ps ⟨4, a, b⟩ = true := by simp [kindB]
          simp only [show ((0 + 1 + 1 + 1 + 1 : Nat) : Int) = 4 from rfl, e, e2]
          exact ops_4_yes cb pb psa _ pcap nm cv _ _ pr ca _ ccap na _ ncap a b w h hn hnc hnn hb0 hok
      case succ.succ.succ.succ.succ.zero =>
        have hb0 : b = 0 := by simpa [wantT] using hB
        cases hok : inB a p.nn
        · have e : okB ps p ⟨5, a, b⟩ = false := by simp [okB, hok]
          simp only [show ((0 + 1 + 1 + 1 + 1 + 1 : Nat) : Int) = 5 from rfl, e]
          exact ops_5_no cb pb psa _ pcap nm cv _ _ pr ca _ ccap na _ ncap a b w h hn hnc hnn hb0 hok
        · have e : okB ps p ⟨5, a, b⟩ = true := by simp [okB, hok]
          have e2 : kindB ps ⟨5, a, b⟩ = true := by simp [kindB]
          simp only [show ((0 + 1 + 1 + 1 + 1 + 1 : Nat) : Int) = 5 from rfl, e, e2]
          exact ops_5_yes cb pb psa _ pcap nm cv _ _ pr ca _ ccap na _ ncap a b w h hn hnc hnn hb0 hok
      case succ.succ.succ.succ.succ.succ.zero =>
        have hb0 : b = 0 := by simpa [wantT] using hB
        cases hok : inB a p.nn
        · have e : okB ps p ⟨6, a, b⟩ = false := by simp [okB, hok]
          simp only [show ((0 + 1 + 1 + 1 + 1 + 1 + 1 : Nat) : Int) = 6 from rfl, e]
          exact ops_6_no cb pb psa _ pcap nm cv _ _ pr ca _ ccap na _ ncap a b w h hn hnc hnn hb0 hok
        · have e : okB ps p ⟨6, a, b⟩ = true := by simp [okB, hok]
          have e2 : kindB ps ⟨6, a, b⟩ = true := by simp [kindB]
          simp only [show ((0 + 1 + 1 + 1 + 1 + 1 + 1 : Nat) : Int) = 6 from rfl, e, e2]
          exact ops_6_yes cb pb psa _ pcap nm cv _ _ pr ca _ ccap na _ ncap a b w h hn hnc hnn hb0 hok
      case succ.succ.succ.succ.succ.succ.succ.zero =>
        have hb0 : b = 0 := by simpa [wantT] using hB
        have e : okB ps p ⟨7, a, b⟩ = true := by simp [okB]
        have e2 : kindB ps ⟨7, a, b⟩ = true := by simp [kindB]
        simp only [show ((0 + 1 + 1 + 1 + 1 + 1 + 1 + 1 : Nat) : Int) = 7 from rfl, e, e2]
        exact ops_other cb pb psa _ pcap nm cv _ _ pr ca _ ccap na _ ncap 7 a b w h hn hnc hnn (by omega) hkn hA' (by simpa using hb0) rfl rfl rfl rfl rfl rfl rfl rfl rfl rfl rfl
      case succ.succ.succ.succ.succ.succ.succ.succ.zero =>
        have hb0 : b = 0 := by simpa [wantT] using hB
        have e : okB ps p ⟨8, a, b⟩ = true := by simp [okB]
        have e2 : kindB ps ⟨8, a, b⟩ = true := by simp [kindB]
        simp only [show ((0 + 1 + 1 + 1 + 1 + 1 + 1 + 1 + 1 : Nat) : Int) = 8 from rfl, e, e2]
        exact ops_other cb pb psa _ pcap nm cv _ _ pr ca _ ccap na _ ncap 8 a b w h hn hnc hnn (by omega) hkn hA' (by simpa using hb0) rfl rfl rfl rfl rfl rfl rfl rfl rfl rfl rfl
      case succ.succ.succ.succ.succ.succ.succ.succ.succ.zero =>
        have hb0 : b = 0 := by simpa [wantT] using hB
        have e : okB ps p ⟨9, a, b⟩ = true := by simp [okB]
        have e2 : kindB ps ⟨9, a, b⟩ = true := by simp [kindB]
        simp only [show ((0 + 1 + 1 + 1 + 1 + 1 + 1 + 1 + 1 + 1 : Nat) : Int) = 9 from rfl, e, e2]
        exact ops_other cb pb psa _ pcap nm cv _ _ pr ca _ ccap na _ ncap 9 a b w h hn hnc hnn (by omega) hkn hA' (by simpa using hb0) rfl rfl rfl rfl rfl rfl rfl rfl rfl rfl rfl
      case succ.succ.succ.succ.succ.succ.succ.succ.succ.succ.zero =>
        cases hok : inB a ps.length
        · have e : okB ps p ⟨10, a, b⟩ = false := by simp [okB, hok]
          simp only [show ((0 + 1 + 1 + 1 + 1 + 1 + 1 + 1 + 1 + 1 + 1 : Nat) : Int) = 10 from rfl, e]
          exact ops_10_no1 cb pb psa _ pcap nm cv _ _ pr ca _ ccap na _ ncap a b w h hn hnc hnn hok
        cases hok2 : inB b 65
        · have e : okB ps p ⟨10, a, b⟩ = false := by simp [okB, hok, hok2]
          simp only [show ((0 + 1 + 1 + 1 + 1 + 1 + 1 + 1 + 1 + 1 + 1 : Nat) : Int) = 10 from rfl, e]
          exact ops_10_no2 cb pb psa _ pcap nm cv _ _ pr ca _ ccap na _ ncap a b w h hn hnc hnn hok hok2
        have e : okB ps p ⟨10, a, b⟩ = true := by simp [okB, hok, hok2]
        have hok' := hok
        rw [inB_iff] at hok'
        obtain ⟨i, rfl⟩ := Int.eq_ofNat_of_zero_le hok'.1
        have hi : i < ps.length := by omega
        obtain ⟨b0, o0, hpsa, hb0, hc0⟩ := hf i hi
        cases hff : (freeOf ps i != b)
        · have e2 : kindB ps ⟨10, i, b⟩ = true := by simpa [kindB] using hff
          simp only [show ((0 + 1 + 1 + 1 + 1 + 1 + 1 + 1 + 1 + 1 + 1 : Nat) : Int) = 10 from rfl, e, e2]
          exact ops_10_yes cb pb psa _ pcap nm cv _ _ pr ca _ ccap na _ ncap i b w h hn hnc hnn i hi rfl b0 o0 hpsa hb0 _ hc0 hok2 hff
        · have e2 : kindB ps ⟨10, i, b⟩ = false := by simpa [kindB] using hff
          simp only [show ((0 + 1 + 1 + 1 + 1 + 1 + 1 + 1 + 1 + 1 + 1 : Nat) : Int) = 10 from rfl, e, e2]
          exact ops_10_no3 cb pb psa _ pcap nm cv _ _ pr ca _ ccap na _ ncap i b w h hn hnc hnn i hi rfl b0 o0 hpsa hb0 _ hc0 hok2 hff
      case succ.succ.succ.succ.succ.succ.succ.succ.succ.succ.succ.zero =>
        have hb0 : b = 0 := by simpa [wantT] using hB
        cases hok : inB a 65
        · have e : okB ps p ⟨11, a, b⟩ = false := by simp [okB, hok]
          simp only [show ((0 + 1 + 1 + 1 + 1 + 1 + 1 + 1 + 1 + 1 + 1 + 1 : Nat) : Int) = 11 from rfl, e]
          exact ops_11_no cb pb psa _ pcap nm cv _ _ pr ca _ ccap na _ ncap a b w h hn hnc hnn hb0 hok
        · have e : okB ps p ⟨11, a, b⟩ = true := by simp [okB, hok]
          have e2 : kindB ps ⟨11, a, b⟩ = true := by simp [kindB]
          simp only [show ((0 + 1 + 1 + 1 + 1 + 1 + 1 + 1 + 1 + 1 + 1 + 1 : Nat) : Int) = 11 from rfl, e, e2]
          exact ops_11_yes cb pb psa _ pcap nm cv _ _ pr ca _ ccap na _ ncap a b w h hn hnc hnn hb0 hok
      case succ.succ.succ.succ.succ.succ.succ.succ.succ.succ.succ.succ.zero =>
        have hb0 : b = 0 := by simpa [wantT] using hB
        cases hok : inB a 65
        · have e : okB ps p ⟨12, a, b⟩ = false := by simp [okB, hok]
          simp only [show ((0 + 1 + 1 + 1 + 1 + 1 + 1 + 1 + 1 + 1 + 1 + 1 + 1 : Nat) : Int) = 12 from rfl, e]
          exact ops_12_no cb pb psa _ pcap nm cv _ _ pr ca _ ccap na _ ncap a b w h hn hnc hnn hb0 hok
        · have e : okB ps p ⟨12, a, b⟩ = true := by simp [okB, hok]
          have e2 : kindB ps ⟨12, a, b⟩ = true := by simp [kindB]
          simp only [show ((0 + 1 + 1 + 1 + 1 + 1 + 1 + 1 + 1 + 1 + 1 + 1 + 1 : Nat) : Int) = 12 from rfl, e, e2]
          exact ops_12_yes cb pb psa _ pcap nm cv _ _ pr ca _ ccap na _ ncap a b w h hn hnc hnn hb0 hok
      case succ.succ.succ.succ.succ.succ.succ.succ.succ.succ.succ.succ.succ.zero =>
        have hb0 : b = 0 := by simpa [wantT] using hB
        have e : okB ps p ⟨13, a, b⟩ = true := by simp [okB]
        have e2 : kindB ps ⟨13, a, b⟩ = true := by simp [kindB]
        simp only [show ((0 + 1 + 1 + 1 + 1 + 1 + 1 + 1 + 1 + 1 + 1 + 1 + 1 + 1 : Nat) : Int) = 13 from rfl, e, e2]
        exact ops_other cb pb psa _ pcap nm cv _ _ pr ca _ ccap na _ ncap 13 a b w h hn hnc hnn (by omega) hkn hA' (by simpa using hb0) rfl rfl rfl rfl rfl rfl rfl rfl rfl rfl rfl
      case succ.succ.succ.succ.succ.succ.succ.succ.succ.succ.succ.succ.succ.succ.zero =>
        have hb0 : b = 0 := by simpa [wantT] using hB
        have e : okB ps p ⟨14, a, b⟩ = true := by simp [okB]
        have e2 : kindB ps ⟨14, a, b⟩ = true := by simp [kindB]
        simp only [show ((0 + 1 + 1 + 1 + 1 + 1 + 1 + 1 + 1 + 1 + 1 + 1 + 1 + 1 + 1 : Nat) : Int) = 14 from rfl, e, e2]
        exact ops_other cb pb psa _ pcap nm cv _ _ pr ca _ ccap na _ ncap 14 a b w h hn hnc hnn (by omega) hkn hA' (by simpa using hb0) rfl rfl rfl rfl rfl rfl rfl rfl rfl rfl rfl
      case succ.succ.succ.succ.succ.succ.succ.succ.succ.succ.succ.succ.succ.succ.succ.zero =>
        have hb0 : b = 0 := by simpa [wantT] using hB
        have e : okB ps p ⟨15, a, b⟩ = true := by simp [okB]
        have e2 : kindB ps ⟨15, a, b⟩ = true := by simp [kindB]
        simp only [show ((0 + 1 + 1 + 1 + 1 + 1 + 1 + 1 + 1 + 1 + 1 + 1 + 1 + 1 + 1 + 1 : Nat) : Int) = 15 from rfl, e, e2]
        exact ops_other cb pb psa _ pcap nm cv _ _ pr ca _ ccap na _ ncap 15 a b w h hn hnc hnn (by omega) hkn hA' (by simpa using hb0) rfl rfl rfl rfl rfl rfl rfl rfl rfl rfl rfl
      case succ.succ.succ.succ.succ.succ.succ.succ.succ.succ.succ.succ.succ.succ.succ.succ.zero =>
        cases hok : inB a 92
        · have e : okB ps p ⟨16, a, b⟩ = false := by simp [okB, hok]
          simp only [show ((0 + 1 + 1 + 1 + 1 + 1 + 1 + 1 + 1 + 1 + 1 + 1 + 1 + 1 + 1 + 1 + 1 : Nat) : Int) = 16 from rfl, e]
          exact ops_16_no cb pb psa _ pcap nm cv _ _ pr ca _ ccap na _ ncap a b w h hn hnc hnn hok
        have e : okB ps p ⟨16, a, b⟩ = true := by simp [okB, hok]
        have hok' := hok
        rw [inB_iff] at hok'
        obtain ⟨i, rfl⟩ := Int.eq_ofNat_of_zero_le hok'.1
        have hi : i < 92 := by omega
        obtain ⟨r, hr⟩ : ∃ r, primT[i]? = some r := ⟨_, List.getElem?_eq_getElem (by rw [primT_length]; exact hi)⟩
        have hp : primOf i = r.2 := by unfold primOf; rw [Int.toNat_natCast, hr]
        have e2 : kindB ps ⟨16, i, b⟩ = (decide ((i : Int) < 85) && decide (r.2.1 ≤ b) && (decide (r.2.2 < 0) || decide (b ≤ r.2.2)) && decide (0 ≤ b)) := by simp [kindB, hp]
        simp only [show ((0 + 1 + 1 + 1 + 1 + 1 + 1 + 1 + 1 + 1 + 1 + 1 + 1 + 1 + 1 + 1 + 1 : Nat) : Int) = 16 from rfl, e, e2]
        by_cases h1 : i < 85
        · by_cases h2 : r.2.1 ≤ b
          · by_cases h3 : 0 ≤ r.2.2
            · by_cases h5 : b ≤ r.2.2
              · by_cases h4 : 0 ≤ b
                · have g : (decide ((i : Int) < 85) && decide (r.2.1 ≤ b) && (decide (r.2.2 < 0) || decide (b ≤ r.2.2)) && decide (0 ≤ b)) = true := by simp [h2, h5, h4]; omega
                  rw [g]; exact ops_16_yes2 cb pb psa _ pcap nm cv _ _ pr ca _ ccap na _ ncap i b w h hn hnc hnn i hi rfl r hr h1 h2 h3 h5 h4
                · have g : (decide ((i : Int) < 85) && decide (r.2.1 ≤ b) && (decide (r.2.2 < 0) || decide (b ≤ r.2.2)) && decide (0 ≤ b)) = false := by simp [h4]
                  rw [g]; exact ops_16_no5 cb pb psa _ pcap nm cv _ _ pr ca _ ccap na _ ncap i b w h hn hnc hnn i hi rfl r hr h1 h2 h3 h5 (by omega)
              · have g : (decide ((i : Int) < 85) && decide (r.2.1 ≤ b) && (decide (r.2.2 < 0) || decide (b ≤ r.2.2)) && decide (0 ≤ b)) = false := by simp [h5]; omega
                rw [g]; exact ops_16_no3 cb pb psa _ pcap nm cv _ _ pr ca _ ccap na _ ncap i b w h hn hnc hnn i hi rfl r hr h1 h2 h3 (by omega)
            · by_cases h4 : 0 ≤ b
              · have g : (decide ((i : Int) < 85) && decide (r.2.1 ≤ b) && (decide (r.2.2 < 0) || decide (b ≤ r.2.2)) && decide (0 ≤ b)) = true := by simp [h2, h4]; omega
                rw [g]; exact ops_16_yes1 cb pb psa _ pcap nm cv _ _ pr ca _ ccap na _ ncap i b w h hn hnc hnn i hi rfl r hr h1 h2 (by omega) h4
              · have g : (decide ((i : Int) < 85) && decide (r.2.1 ≤ b) && (decide (r.2.2 < 0) || decide (b ≤ r.2.2)) && decide (0 ≤ b)) = false := by simp [h4]
                rw [g]; exact ops_16_no4 cb pb psa _ pcap nm cv _ _ pr ca _ ccap na _ ncap i b w h hn hnc hnn i hi rfl r hr h1 h2 (by omega) (by omega)
          · have g : (decide ((i : Int) < 85) && decide (r.2.1 ≤ b) && (decide (r.2.2 < 0) || decide (b ≤ r.2.2)) && decide (0 ≤ b)) = false := by simp [h2]
            rw [g]; exact ops_16_no2 cb pb psa _ pcap nm cv _ _ pr ca _ ccap na _ ncap i b w h hn hnc hnn i hi rfl r hr h1 (by omega)
        · have g : (decide ((i : Int) < 85) && decide (r.2.1 ≤ b) && (decide (r.2.2 < 0) || decide (b ≤ r.2.2)) && decide (0 ≤ b)) = false := by simp; omega
          rw [g]; exact ops_16_no1 cb pb psa _ pcap nm cv _ _ pr ca _ ccap na _ ncap i b w h hn hnc hnn i hi rfl r hr (by omega)
      case succ.succ.succ.succ.succ.succ.succ.succ.succ.succ.succ.succ.succ.succ.succ.succ.succ.zero =>
        have hb0 : b = 0 := by simpa [wantT] using hB
        have e : okB ps p ⟨17, a, b⟩ = true := by simp [okB]
        have e2 : kindB ps ⟨17, a, b⟩ = true := by simp [kindB]
        simp only [show ((0 + 1 + 1 + 1 + 1 + 1 + 1 + 1 + 1 + 1 + 1 + 1 + 1 + 1 + 1 + 1 + 1 + 1 : Nat) : Int) = 17 from rfl, e, e2]
        exact ops_other cb pb psa _ pcap nm cv _ _ pr ca _ ccap na _ ncap 17 a b w h hn hnc hnn (by omega) hkn hA' (by simpa using hb0) rfl rfl rfl rfl rfl rfl rfl rfl rfl rfl rfl
      case succ.succ.succ.succ.succ.succ.succ.succ.succ.succ.succ.succ.succ.succ.succ.succ.succ.succ.zero =>
        have hb0 : b = 0 := by simpa [wantT] using hB
        cases hok : inB a 4097
        · have e : okB ps p ⟨18, a, b⟩ = false := by simp [okB, hok]
          simp only [show ((0 + 1 + 1 + 1 + 1 + 1 + 1 + 1 + 1 + 1 + 1 + 1 + 1 + 1 + 1 + 1 + 1 + 1 + 1 : Nat) : Int) = 18 from rfl, e]
          exact ops_18_no cb pb psa _ pcap nm cv _ _ pr ca _ ccap na _ ncap a b w h hn hnc hnn hb0 hok
        · have e : okB ps p ⟨18, a, b⟩ = true := by simp [okB, hok]
          have e2 : kindB ps ⟨18, a, b⟩ = true := by simp [kindB]
          simp only [show ((0 + 1 + 1 + 1 + 1 + 1 + 1 + 1 + 1 + 1 + 1 + 1 + 1 + 1 + 1 + 1 + 1 + 1 + 1 : Nat) : Int) = 18 from rfl, e, e2]
          exact ops_18_yes cb pb psa _ pcap nm cv _ _ pr ca _ ccap na _ ncap a b w h hn hnc hnn hb0 hok
      case succ.succ.succ.succ.succ.succ.succ.succ.succ.succ.succ.succ.succ.succ.succ.succ.succ.succ.succ.zero =>
        have hb0 : b = 0 := by simpa [wantT] using hB
        have e : okB ps p ⟨19, a, b⟩ = true := by simp [okB]
        have e2 : kindB ps ⟨19, a, b⟩ = true := by simp [kindB]
        simp only [show ((0 + 1 + 1 + 1 + 1 + 1 + 1 + 1 + 1 + 1 + 1 + 1 + 1 + 1 + 1 + 1 + 1 + 1 + 1 + 1 : Nat) : Int) = 19 from rfl, e, e2]
        exact ops_other cb pb psa _ pcap nm cv _ _ pr ca _ ccap na _ ncap 19 a b w h hn hnc hnn (by omega) hkn hA' (by simpa using hb0) rfl rfl rfl rfl rfl rfl rfl rfl rfl rfl rfl
      case succ.succ.succ.succ.succ.succ.succ.succ.succ.succ.succ.succ.succ.succ.succ.succ.succ.succ.succ.succ.zero =>
        have hb0 : b = 0 := by simpa [wantT] using hB
        have e : okB ps p ⟨20, a, b⟩ = true := by simp [okB]
        have e2 : kindB ps ⟨20, a, b⟩ = true := by simp [kindB]
        simp only [show ((0 + 1 + 1 + 1 + 1 + 1 + 1 + 1 + 1 + 1 + 1 + 1 + 1 + 1 + 1 + 1 + 1 + 1 + 1 + 1 + 1 : Nat) : Int) = 20 from rfl, e, e2]
        exact ops_other cb pb psa _ pcap nm cv _ _ pr ca _ ccap na _ ncap 20 a b w h hn hnc hnn (by omega) hkn hA' (by simpa using hb0) rfl rfl rfl rfl rfl rfl rfl rfl rfl rfl rfl
      case succ.succ.succ.succ.succ.succ.succ.succ.succ.succ.succ.succ.succ.succ.succ.succ.succ.succ.succ.succ.succ.zero =>
        have hb0 : b = 0 := by simpa [wantT] using hB
        have e : okB ps p ⟨21, a, b⟩ = true := by simp [okB]
        have e2 : kindB ps ⟨21, a, b⟩ = true := by simp [kindB]
        simp only [show ((0 + 1 + 1 + 1 + 1 + 1 + 1 + 1 + 1 + 1 + 1 + 1 + 1 + 1 + 1 + 1 + 1 + 1 + 1 + 1 + 1 + 1 : Nat) : Int) = 21 from rfl, e, e2]
        exact ops_other cb pb psa _ pcap nm cv _ _ pr ca _ ccap na _ ncap 21 a b w h hn hnc hnn (by omega) hkn hA' (by simpa using hb0) rfl rfl rfl rfl rfl rfl rfl rfl rfl rfl rfl
      case succ.succ.succ.succ.succ.succ.succ.succ.succ.succ.succ.succ.succ.succ.succ.succ.succ.succ.succ.succ.succ.succ => omega
    · have e : opsE ps p x = 30 := by
        unfold opsE
        rw [hk, Int.toNat_natCast, (inB_iff (n := (k : Int)) (b := 22)).2 (by omega)]
        simp [hkn]
      rw [e]
      obtain rfl : k = 0 := by
        rcases k with _ | _ | _ | _ | _ | _ | _ | _ | _ | _ | _ | _ | _ | _ | _ | _ | _ | _ | _ | _ | _ | _ | k
        all_goals first | rfl | omega | exact absurd rfl hkn
      rw [hk]
      exact ops_zero cb pb psa _ pcap nm cv _ _ pr ca _ ccap na _ ncap x.a x.b w h hn hnc hnn
  · have e : opsE ps p x = 30 := by unfold opsE; simp [hin]
    rw [e]
    exact ops_out cb pb psa _ pcap nm cv _ _ pr ca _ ccap na _ ncap x.op x.a x.b w h hn hnc hnn (by simpa using hin)

end Go.Proofs.Ytmlmepbnjlepnaa
