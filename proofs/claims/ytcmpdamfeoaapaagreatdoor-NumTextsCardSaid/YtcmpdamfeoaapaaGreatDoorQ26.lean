/- thresherlaw04.NumTexts, walked. -/
import Derived.Test.YtcmpdamfeoaapaaGreatDoorQ25
import Derived.Test.YtcmpdamfeoaapaaGreatDoorQ21
import Derived.Test.YtcmpdamfeoaapaaGreatDoorM6
namespace Go.Proofs.YtcmpdamfeoaapaaGreatDoor
open Go.RowKit
set_option linter.unusedVariables false

set_option maxRecDepth 100000 in
set_option maxHeartbeats 16000000 in
theorem texts4_any (s : ByteArray) (w : World) (hs : s.size ≤ 140737488351232) :
    Calls Tryz.prog 3 #[.string s] w fun e w' => e = .returned (.bool true) ∧ Below w.heap.size w w' := by
  have HF := Lib.hid (fixed4_any w)
  by_cases hbig : 3000 < s.size
  · have hI : (3000 : Int) < (s.size : Int) := by omega
    go_enter Tryz.func3, Tryz.ntmps3
    go_wp2_with fail
    refine HF.out.mono ?_
    rintro e w1 ⟨rfl, hb1⟩
    have HB1 := Lib.hid hb1
    clear hb1
    go_wp2_with fail
    go_ret
    exact ⟨rfl, HB1.out⟩
  have hI : (s.size : Int) ≤ 3000 := by omega
  have hI2 : decide ((3000 : Int) < (s.size : Int)) = false := by simp; omega
  have HP := Lib.hid (fun W => Prefix_any s W (by omega))
  have HP4 := Lib.hid (fun W => Prefix4_any s W (by omega))
  have HL := Lib.hid (fun W => Literal_any s W (by omega))
  have HL4 := Lib.hid (fun W => Literal4_any s W (by omega))
  have HK := Lib.hid (fun W => Looks_any s W (by omega))
  have HK4 := Lib.hid (fun W => Looks4_any s W (by omega))
  generalize prefB s.data.toList = X at *
  generalize prefN s.data.toList = N at *
  generalize litV s.data.toList = V at *
  generalize litN s.data.toList = M at *
  generalize looksL s.data.toList = K at *
  have HS1 := Lib.hid (fun W => Same4_self X W)
  have HS2 := Lib.hid (fun W => Same4_self V W)
  clear hbig
  go_enter Tryz.func3, Tryz.ntmps3
  go_wp2_with fail
  refine HF.out.mono ?_
  rintro e w1 ⟨rfl, hb1⟩
  have HB1 := Lib.hid hb1
  clear hb1 HF
  go_wp2_with fail
  refine (HP.out _).mono ?_
  rintro e w2 ⟨rfl, hb2⟩
  have HB2 := Lib.hid (HB1.out.trans (hb2.mono HB1.out.size))
  clear hb2 HB1
  go_wp2_with fail
  refine (HP4.out _).mono ?_
  rintro e w3 ⟨rfl, hb3⟩
  have HB3 := Lib.hid (HB2.out.trans (hb3.mono HB2.out.size))
  clear hb3 HB2
  go_wp2_with fail
  refine (HL.out _).mono ?_
  rintro e w4 ⟨rfl, hb4⟩
  have HB4 := Lib.hid (HB3.out.trans (hb4.mono HB3.out.size))
  clear hb4 HB3
  go_wp2_with fail
  refine (HL4.out _).mono ?_
  rintro e w5 ⟨rfl, hb5⟩
  have HB5 := Lib.hid (HB4.out.trans (hb5.mono HB4.out.size))
  clear hb5 HB4
  go_wp2_with fail
  refine (HS1.out _).mono ?_
  rintro e _ ⟨rfl, rfl⟩
  go_wp2_with fail
  refine (HS2.out _).mono ?_
  rintro e _ ⟨rfl, rfl⟩
  go_wp2_with fail
  refine (HK.out _).mono ?_
  rintro e w6 ⟨rfl, hb6⟩
  have HB6 := Lib.hid (HB5.out.trans (hb6.mono HB5.out.size))
  clear hb6 HB5
  go_wp2_with fail
  refine (HK4.out _).mono ?_
  rintro e w7 ⟨rfl, hb7⟩
  have HB7 := Lib.hid (HB6.out.trans (hb7.mono HB6.out.size))
  clear hb7 HB6
  go_wp2_with fail
  go_ret
  exact ⟨by simp, HB7.out⟩
end Go.Proofs.YtcmpdamfeoaapaaGreatDoor
