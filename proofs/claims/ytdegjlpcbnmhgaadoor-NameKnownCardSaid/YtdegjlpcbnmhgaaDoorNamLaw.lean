/- The first sentence of layer 6's statements: names are told. -/
import Derived.Test.YtdegjlpcbnmhgaaDoorNam4
import Derived.Test.YtdegjlpcbnmhgaaDoorLaw
namespace Go.Proofs.YtdegjlpcbnmhgaaDoor
open Go.RowKit Nam

theorem eq_data {t u : ByteArray} (h : t.data.toList = u.data.toList) : t = u := by
  obtain ⟨⟨a⟩⟩ := t
  obtain ⟨⟨b⟩⟩ := u
  simp at h
  rw [h]

set_option maxHeartbeats 2000000 in
theorem awake_is (w : World) (hT : Tabs w) : Calls Tryd.prog 9 #[] w fun e w' => e = .returned (.bool true) ∧ Below w.heap.size w w' := by
  have b1 : bucketB [97, 46, 98] = true := by decide
  have b2 : bucketB [97, 45, 46, 98] = false := by decide
  have k1 : keyB [195, 169] = true := by decide
  have p1 : pathB [97, 98] = [54, 49, 54, 50] := by decide
  have n1 : (nextR [97, 98]).getD [] = [97, 99] := by decide
  have B1 := Lib.hid b1; clear b1
  have B2 := Lib.hid b2; clear b2
  have K1 := Lib.hid k1; clear k1
  have P1 := Lib.hid p1; clear p1
  have N1 := Lib.hid n1; clear n1
  have HT := Lib.hid hT; clear hT
  go_enter Tryd.func9, Tryd.ntmps9
  go_wp2_with fail
  refine (bucket_is _ _ (by unfold maxLen; decide)).mono ?_
  rintro e w1 ⟨rfl, h1⟩
  rw [show bucketB (ByteArray.mk #[97, 46, 98]).data.toList = true from B1.out]
  go_wp2_with fail
  refine (bucket_is _ _ (by unfold maxLen; decide)).mono ?_
  rintro e w2 ⟨rfl, h2⟩
  rw [show bucketB (ByteArray.mk #[97, 45, 46, 98]).data.toList = false from B2.out]
  have h12 := h1.trans (h2.mono h1.size)
  go_wp2_with fail
  refine (key_is _ _ (by unfold maxLen; decide) (HT.out.below h12)).mono ?_
  rintro e w3 ⟨rfl, h3⟩
  rw [show keyB (ByteArray.mk #[195, 169]).data.toList = true from K1.out]
  have h13 := h12.trans (h3.mono h12.size)
  go_wp2_with fail
  refine (path_is _ _ (by decide)).mono ?_
  rintro e w4 ⟨⟨t, rfl, ht⟩, h4⟩
  rw [show pathB (ByteArray.mk #[97, 98]).data.toList = [54, 49, 54, 50] from P1.out] at ht
  obtain rfl : t = ⟨#[54, 49, 54, 50]⟩ := eq_data ht
  have h14 := h13.trans (h4.mono h13.size)
  go_wp2_with fail
  refine (next_is _ _ (by decide)).mono ?_
  rintro e w5 ⟨⟨t, rfl, ht5, _⟩, h5⟩
  rw [show (nextR (ByteArray.mk #[97, 98]).data.toList).getD [] = [97, 99] from N1.out] at ht5
  obtain rfl : t = ⟨#[97, 99]⟩ := eq_data ht5
  have h15 := h14.trans (h5.mono h14.size)
  clear h1 h2 h3 h4 h5 h12 h13 h14
  go_wp2
  go_ret
  exact ⟨rfl, h15⟩
end Go.Proofs.YtdegjlpcbnmhgaaDoor
