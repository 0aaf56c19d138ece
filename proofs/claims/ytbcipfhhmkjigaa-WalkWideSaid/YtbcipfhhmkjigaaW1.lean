/- WalkWide: the objects for 1, 2, 3 times. -/
import Derived.Test.YtbcipfhhmkjigaaWA
import Derived.KernelRfl
set_option linter.unusedVariables false
namespace Go.Proofs.Ytbcipfhhmkjigaa
open Go Go.Cf
def wn1 (j : Nat) : List Int := ([[159, 145, 22, 31, 67, 67, 62, 73, 166, 222, 109, 182, 128, 215, 159, 96, 21, 159, 46, 74, 201, 23, 38, 33, 161, 40, 70, 66, 129, 88, 68, 11], [127, 87, 13, 73, 227, 153, 70, 181, 164, 53, 30, 143, 203, 208, 227, 101, 78, 73, 151, 6, 95, 102, 113, 231, 223, 139, 92, 39, 254, 153, 145, 195], [77, 42, 227, 206, 1, 162, 75, 135, 179, 141, 132, 145, 214, 85, 127, 192, 105, 65, 34, 163, 157, 251, 152, 52, 193, 51, 167, 194, 117, 63, 49, 167], [9, 176, 29, 202, 147, 244, 204, 9, 66, 152, 64, 160, 67, 210, 113, 100, 187, 58, 156, 215, 250, 117, 247, 197, 196, 38, 203, 12, 35, 78, 107, 92], [57, 136, 98, 156, 172, 195, 205, 194, 1, 132, 139, 207, 187, 249, 201, 217, 143, 90, 117, 95, 163, 103, 122, 33, 9, 62, 216, 164, 252, 160, 104, 15], [81, 119, 103, 171, 29, 213, 193, 204, 198, 134, 39, 107, 2, 219, 189, 116, 203, 78, 182, 168, 93, 62, 108, 136, 155, 26, 110, 253, 70, 178, 117, 182], [190, 173, 129, 228, 108, 197, 87, 17, 18, 139, 130, 56, 83, 227, 208, 83, 116, 41, 123, 210, 75, 146, 16, 190, 156, 194, 54, 65, 161, 255, 231, 255], [141, 195, 94, 235, 203, 49, 120, 6, 77, 49, 29, 91, 190, 56, 254, 207, 7, 179, 139, 106, 17, 232, 139, 36, 41, 24, 28, 53, 95, 251, 192, 98]] : List (List Int)).getD j []
def wd1 (j : Nat) : List Int := ([[108, 101, 97, 102], [68, 49, 1, 1, 1, 97, 159, 145, 22, 31, 67, 67, 62, 73, 166, 222, 109, 182, 128, 215, 159, 96, 21, 159, 46, 74, 201, 23, 38, 33, 161, 40, 70, 66, 129, 88, 68, 11, 4], [68, 49, 1, 2, 1, 97, 127, 87, 13, 73, 227, 153, 70, 181, 164, 53, 30, 143, 203, 208, 227, 101, 78, 73, 151, 6, 95, 102, 113, 231, 223, 139, 92, 39, 254, 153, 145, 195, 0], [68, 49, 1, 2, 1, 97, 77, 42, 227, 206, 1, 162, 75, 135, 179, 141, 132, 145, 214, 85, 127, 192, 105, 65, 34, 163, 157, 251, 152, 52, 193, 51, 167, 194, 117, 63, 49, 167, 0], [68, 49, 1, 2, 1, 97, 9, 176, 29, 202, 147, 244, 204, 9, 66, 152, 64, 160, 67, 210, 113, 100, 187, 58, 156, 215, 250, 117, 247, 197, 196, 38, 203, 12, 35, 78, 107, 92, 0], [68, 49, 1, 2, 1, 97, 57, 136, 98, 156, 172, 195, 205, 194, 1, 132, 139, 207, 187, 249, 201, 217, 143, 90, 117, 95, 163, 103, 122, 33, 9, 62, 216, 164, 252, 160, 104, 15, 0], [68, 49, 1, 2, 1, 97, 81, 119, 103, 171, 29, 213, 193, 204, 198, 134, 39, 107, 2, 219, 189, 116, 203, 78, 182, 168, 93, 62, 108, 136, 155, 26, 110, 253, 70, 178, 117, 182, 0], [68, 49, 1, 2, 1, 97, 190, 173, 129, 228, 108, 197, 87, 17, 18, 139, 130, 56, 83, 227, 208, 83, 116, 41, 123, 210, 75, 146, 16, 190, 156, 194, 54, 65, 161, 255, 231, 255, 0]] : List (List Int)).getD j []
set_option maxRecDepth 1000000 in
theorem wb1_0 (k : Nat) : cofferref15_Bytes.f (k + 1000) (itemsOf 1 wn1 0) = some (wd1 1, 0) := by kernel_rfl
set_option maxRecDepth 1000000 in
theorem wh1_0 : shaF (wd1 1) = wn1 1 := by kernel_rfl
set_option maxRecDepth 1000000 in
theorem wt1_0 (k : Nat) : folder_Take.f (k + 1000) (wd1 1) = some (itemsOf 1 wn1 0, 0) := by kernel_rfl
set_option maxRecDepth 1000000 in
theorem wb1_1 (k : Nat) : cofferref15_Bytes.f (k + 1000) (itemsOf 1 wn1 1) = some (wd1 2, 0) := by kernel_rfl
set_option maxRecDepth 1000000 in
theorem wh1_1 : shaF (wd1 2) = wn1 2 := by kernel_rfl
set_option maxRecDepth 1000000 in
theorem wt1_1 (k : Nat) : folder_Take.f (k + 1000) (wd1 2) = some (itemsOf 1 wn1 1, 0) := by kernel_rfl
set_option maxRecDepth 1000000 in
theorem wb1_2 (k : Nat) : cofferref15_Bytes.f (k + 1000) (itemsOf 1 wn1 2) = some (wd1 3, 0) := by kernel_rfl
set_option maxRecDepth 1000000 in
theorem wh1_2 : shaF (wd1 3) = wn1 3 := by kernel_rfl
set_option maxRecDepth 1000000 in
theorem wt1_2 (k : Nat) : folder_Take.f (k + 1000) (wd1 3) = some (itemsOf 1 wn1 2, 0) := by kernel_rfl
set_option maxRecDepth 1000000 in
theorem wb1_3 (k : Nat) : cofferref15_Bytes.f (k + 1000) (itemsOf 1 wn1 3) = some (wd1 4, 0) := by kernel_rfl
set_option maxRecDepth 1000000 in
theorem wh1_3 : shaF (wd1 4) = wn1 4 := by kernel_rfl
set_option maxRecDepth 1000000 in
theorem wt1_3 (k : Nat) : folder_Take.f (k + 1000) (wd1 4) = some (itemsOf 1 wn1 3, 0) := by kernel_rfl
set_option maxRecDepth 1000000 in
theorem wb1_4 (k : Nat) : cofferref15_Bytes.f (k + 1000) (itemsOf 1 wn1 4) = some (wd1 5, 0) := by kernel_rfl
set_option maxRecDepth 1000000 in
theorem wh1_4 : shaF (wd1 5) = wn1 5 := by kernel_rfl
set_option maxRecDepth 1000000 in
theorem wt1_4 (k : Nat) : folder_Take.f (k + 1000) (wd1 5) = some (itemsOf 1 wn1 4, 0) := by kernel_rfl
set_option maxRecDepth 1000000 in
theorem wb1_5 (k : Nat) : cofferref15_Bytes.f (k + 1000) (itemsOf 1 wn1 5) = some (wd1 6, 0) := by kernel_rfl
set_option maxRecDepth 1000000 in
theorem wh1_5 : shaF (wd1 6) = wn1 6 := by kernel_rfl
set_option maxRecDepth 1000000 in
theorem wt1_5 (k : Nat) : folder_Take.f (k + 1000) (wd1 6) = some (itemsOf 1 wn1 5, 0) := by kernel_rfl
set_option maxRecDepth 1000000 in
theorem wb1_6 (k : Nat) : cofferref15_Bytes.f (k + 1000) (itemsOf 1 wn1 6) = some (wd1 7, 0) := by kernel_rfl
set_option maxRecDepth 1000000 in
theorem wh1_6 : shaF (wd1 7) = wn1 7 := by kernel_rfl
set_option maxRecDepth 1000000 in
theorem wt1_6 (k : Nat) : folder_Take.f (k + 1000) (wd1 7) = some (itemsOf 1 wn1 6, 0) := by kernel_rfl
set_option maxRecDepth 1000000 in
theorem wl1 : shaF (wd1 0) = wn1 0 := by kernel_rfl
set_option maxRecDepth 1000000 in
theorem wa1 : apartN wn1 = true := by kernel_rfl
set_option maxRecDepth 1000000 in
theorem made1 : Made 1 wn1 wd1 where
  chain := ⟨by decide, by decide, forall7 wt1_0 wt1_1 wt1_2 wt1_3 wt1_4 wt1_5 wt1_6, inj_of wa1, rfl⟩
  leaf := rfl
  of := fun k hk => by rw [Of_is _ (by decide) k (by have : (wd1 0).length = 4 := rfl; omega), shaF_is, wl1]
  folder := forall7 (Folder_is wb1_0 (Nat.le_of_ble_eq_true (by kernel_rfl)) wh1_0) (Folder_is wb1_1 (Nat.le_of_ble_eq_true (by kernel_rfl)) wh1_1) (Folder_is wb1_2 (Nat.le_of_ble_eq_true (by kernel_rfl)) wh1_2) (Folder_is wb1_3 (Nat.le_of_ble_eq_true (by kernel_rfl)) wh1_3) (Folder_is wb1_4 (Nat.le_of_ble_eq_true (by kernel_rfl)) wh1_4) (Folder_is wb1_5 (Nat.le_of_ble_eq_true (by kernel_rfl)) wh1_5) (Folder_is wb1_6 (Nat.le_of_ble_eq_true (by kernel_rfl)) wh1_6)
def wn2 (j : Nat) : List Int := ([[159, 145, 22, 31, 67, 67, 62, 73, 166, 222, 109, 182, 128, 215, 159, 96, 21, 159, 46, 74, 201, 23, 38, 33, 161, 40, 70, 66, 129, 88, 68, 11], [152, 78, 211, 171, 174, 3, 23, 28, 9, 194, 156, 154, 233, 187, 26, 243, 25, 103, 112, 180, 114, 179, 91, 254, 60, 144, 108, 184, 131, 101, 232, 58], [63, 1, 77, 193, 122, 133, 205, 22, 235, 87, 86, 74, 238, 153, 227, 160, 224, 146, 69, 100, 246, 113, 230, 88, 159, 158, 201, 130, 8, 128, 240, 172], [211, 66, 221, 96, 91, 167, 85, 102, 99, 80, 83, 215, 22, 196, 50, 68, 249, 141, 111, 242, 123, 154, 147, 142, 193, 232, 139, 119, 247, 29, 117, 254], [83, 89, 159, 177, 228, 109, 195, 88, 249, 35, 230, 17, 92, 78, 127, 16, 236, 121, 203, 202, 215, 82, 77, 167, 18, 187, 240, 203, 89, 229, 99, 102], [244, 200, 217, 231, 196, 20, 76, 151, 168, 143, 73, 69, 106, 49, 93, 149, 11, 145, 204, 115, 172, 165, 157, 186, 28, 244, 59, 99, 141, 132, 47, 195], [178, 73, 160, 22, 165, 9, 161, 229, 99, 237, 55, 207, 62, 159, 166, 65, 158, 180, 202, 217, 234, 241, 106, 114, 117, 84, 115, 181, 213, 131, 236, 86], [152, 10, 140, 48, 103, 64, 116, 221, 41, 158, 175, 7, 73, 52, 222, 204, 168, 185, 97, 194, 164, 152, 120, 245, 159, 196, 234, 216, 173, 145, 234, 211]] : List (List Int)).getD j []
def wd2 (j : Nat) : List Int := ([[108, 101, 97, 102], [68, 49, 2, 1, 1, 97, 159, 145, 22, 31, 67, 67, 62, 73, 166, 222, 109, 182, 128, 215, 159, 96, 21, 159, 46, 74, 201, 23, 38, 33, 161, 40, 70, 66, 129, 88, 68, 11, 4, 1, 1, 98, 159, 145, 22, 31, 67, 67, 62, 73, 166, 222, 109, 182, 128, 215, 159, 96, 21, 159, 46, 74, 201, 23, 38, 33, 161, 40, 70, 66, 129, 88, 68, 11, 4], [68, 49, 2, 2, 1, 97, 152, 78, 211, 171, 174, 3, 23, 28, 9, 194, 156, 154, 233, 187, 26, 243, 25, 103, 112, 180, 114, 179, 91, 254, 60, 144, 108, 184, 131, 101, 232, 58, 0, 2, 1, 98, 152, 78, 211, 171, 174, 3, 23, 28, 9, 194, 156, 154, 233, 187, 26, 243, 25, 103, 112, 180, 114, 179, 91, 254, 60, 144, 108, 184, 131, 101, 232, 58, 0], [68, 49, 2, 2, 1, 97, 63, 1, 77, 193, 122, 133, 205, 22, 235, 87, 86, 74, 238, 153, 227, 160, 224, 146, 69, 100, 246, 113, 230, 88, 159, 158, 201, 130, 8, 128, 240, 172, 0, 2, 1, 98, 63, 1, 77, 193, 122, 133, 205, 22, 235, 87, 86, 74, 238, 153, 227, 160, 224, 146, 69, 100, 246, 113, 230, 88, 159, 158, 201, 130, 8, 128, 240, 172, 0], [68, 49, 2, 2, 1, 97, 211, 66, 221, 96, 91, 167, 85, 102, 99, 80, 83, 215, 22, 196, 50, 68, 249, 141, 111, 242, 123, 154, 147, 142, 193, 232, 139, 119, 247, 29, 117, 254, 0, 2, 1, 98, 211, 66, 221, 96, 91, 167, 85, 102, 99, 80, 83, 215, 22, 196, 50, 68, 249, 141, 111, 242, 123, 154, 147, 142, 193, 232, 139, 119, 247, 29, 117, 254, 0], [68, 49, 2, 2, 1, 97, 83, 89, 159, 177, 228, 109, 195, 88, 249, 35, 230, 17, 92, 78, 127, 16, 236, 121, 203, 202, 215, 82, 77, 167, 18, 187, 240, 203, 89, 229, 99, 102, 0, 2, 1, 98, 83, 89, 159, 177, 228, 109, 195, 88, 249, 35, 230, 17, 92, 78, 127, 16, 236, 121, 203, 202, 215, 82, 77, 167, 18, 187, 240, 203, 89, 229, 99, 102, 0], [68, 49, 2, 2, 1, 97, 244, 200, 217, 231, 196, 20, 76, 151, 168, 143, 73, 69, 106, 49, 93, 149, 11, 145, 204, 115, 172, 165, 157, 186, 28, 244, 59, 99, 141, 132, 47, 195, 0, 2, 1, 98, 244, 200, 217, 231, 196, 20, 76, 151, 168, 143, 73, 69, 106, 49, 93, 149, 11, 145, 204, 115, 172, 165, 157, 186, 28, 244, 59, 99, 141, 132, 47, 195, 0], [68, 49, 2, 2, 1, 97, 178, 73, 160, 22, 165, 9, 161, 229, 99, 237, 55, 207, 62, 159, 166, 65, 158, 180, 202, 217, 234, 241, 106, 114, 117, 84, 115, 181, 213, 131, 236, 86, 0, 2, 1, 98, 178, 73, 160, 22, 165, 9, 161, 229, 99, 237, 55, 207, 62, 159, 166, 65, 158, 180, 202, 217, 234, 241, 106, 114, 117, 84, 115, 181, 213, 131, 236, 86, 0]] : List (List Int)).getD j []
set_option maxRecDepth 1000000 in
theorem wb2_0 (k : Nat) : cofferref15_Bytes.f (k + 1000) (itemsOf 2 wn2 0) = some (wd2 1, 0) := by kernel_rfl
set_option maxRecDepth 1000000 in
theorem wh2_0 : shaF (wd2 1) = wn2 1 := by kernel_rfl
set_option maxRecDepth 1000000 in
theorem wt2_0 (k : Nat) : folder_Take.f (k + 1000) (wd2 1) = some (itemsOf 2 wn2 0, 0) := by kernel_rfl
set_option maxRecDepth 1000000 in
theorem wb2_1 (k : Nat) : cofferref15_Bytes.f (k + 1000) (itemsOf 2 wn2 1) = some (wd2 2, 0) := by kernel_rfl
set_option maxRecDepth 1000000 in
theorem wh2_1 : shaF (wd2 2) = wn2 2 := by kernel_rfl
set_option maxRecDepth 1000000 in
theorem wt2_1 (k : Nat) : folder_Take.f (k + 1000) (wd2 2) = some (itemsOf 2 wn2 1, 0) := by kernel_rfl
set_option maxRecDepth 1000000 in
theorem wb2_2 (k : Nat) : cofferref15_Bytes.f (k + 1000) (itemsOf 2 wn2 2) = some (wd2 3, 0) := by kernel_rfl
set_option maxRecDepth 1000000 in
theorem wh2_2 : shaF (wd2 3) = wn2 3 := by kernel_rfl
set_option maxRecDepth 1000000 in
theorem wt2_2 (k : Nat) : folder_Take.f (k + 1000) (wd2 3) = some (itemsOf 2 wn2 2, 0) := by kernel_rfl
set_option maxRecDepth 1000000 in
theorem wb2_3 (k : Nat) : cofferref15_Bytes.f (k + 1000) (itemsOf 2 wn2 3) = some (wd2 4, 0) := by kernel_rfl
set_option maxRecDepth 1000000 in
theorem wh2_3 : shaF (wd2 4) = wn2 4 := by kernel_rfl
set_option maxRecDepth 1000000 in
theorem wt2_3 (k : Nat) : folder_Take.f (k + 1000) (wd2 4) = some (itemsOf 2 wn2 3, 0) := by kernel_rfl
set_option maxRecDepth 1000000 in
theorem wb2_4 (k : Nat) : cofferref15_Bytes.f (k + 1000) (itemsOf 2 wn2 4) = some (wd2 5, 0) := by kernel_rfl
set_option maxRecDepth 1000000 in
theorem wh2_4 : shaF (wd2 5) = wn2 5 := by kernel_rfl
set_option maxRecDepth 1000000 in
theorem wt2_4 (k : Nat) : folder_Take.f (k + 1000) (wd2 5) = some (itemsOf 2 wn2 4, 0) := by kernel_rfl
set_option maxRecDepth 1000000 in
theorem wb2_5 (k : Nat) : cofferref15_Bytes.f (k + 1000) (itemsOf 2 wn2 5) = some (wd2 6, 0) := by kernel_rfl
set_option maxRecDepth 1000000 in
theorem wh2_5 : shaF (wd2 6) = wn2 6 := by kernel_rfl
set_option maxRecDepth 1000000 in
theorem wt2_5 (k : Nat) : folder_Take.f (k + 1000) (wd2 6) = some (itemsOf 2 wn2 5, 0) := by kernel_rfl
set_option maxRecDepth 1000000 in
theorem wb2_6 (k : Nat) : cofferref15_Bytes.f (k + 1000) (itemsOf 2 wn2 6) = some (wd2 7, 0) := by kernel_rfl
set_option maxRecDepth 1000000 in
theorem wh2_6 : shaF (wd2 7) = wn2 7 := by kernel_rfl
set_option maxRecDepth 1000000 in
theorem wt2_6 (k : Nat) : folder_Take.f (k + 1000) (wd2 7) = some (itemsOf 2 wn2 6, 0) := by kernel_rfl
set_option maxRecDepth 1000000 in
theorem wl2 : shaF (wd2 0) = wn2 0 := by kernel_rfl
set_option maxRecDepth 1000000 in
theorem wa2 : apartN wn2 = true := by kernel_rfl
set_option maxRecDepth 1000000 in
theorem made2 : Made 2 wn2 wd2 where
  chain := ⟨by decide, by decide, forall7 wt2_0 wt2_1 wt2_2 wt2_3 wt2_4 wt2_5 wt2_6, inj_of wa2, rfl⟩
  leaf := rfl
  of := fun k hk => by rw [Of_is _ (by decide) k (by have : (wd2 0).length = 4 := rfl; omega), shaF_is, wl2]
  folder := forall7 (Folder_is wb2_0 (Nat.le_of_ble_eq_true (by kernel_rfl)) wh2_0) (Folder_is wb2_1 (Nat.le_of_ble_eq_true (by kernel_rfl)) wh2_1) (Folder_is wb2_2 (Nat.le_of_ble_eq_true (by kernel_rfl)) wh2_2) (Folder_is wb2_3 (Nat.le_of_ble_eq_true (by kernel_rfl)) wh2_3) (Folder_is wb2_4 (Nat.le_of_ble_eq_true (by kernel_rfl)) wh2_4) (Folder_is wb2_5 (Nat.le_of_ble_eq_true (by kernel_rfl)) wh2_5) (Folder_is wb2_6 (Nat.le_of_ble_eq_true (by kernel_rfl)) wh2_6)
def wn3 (j : Nat) : List Int := ([[159, 145, 22, 31, 67, 67, 62, 73, 166, 222, 109, 182, 128, 215, 159, 96, 21, 159, 46, 74, 201, 23, 38, 33, 161, 40, 70, 66, 129, 88, 68, 11], [46, 88, 218, 148, 142, 232, 95, 11, 146, 249, 222, 57, 17, 243, 228, 95, 120, 231, 130, 204, 250, 27, 210, 81, 130, 172, 137, 240, 59, 236, 214, 94], [253, 116, 95, 221, 82, 62, 159, 38, 177, 174, 250, 145, 189, 6, 121, 159, 39, 245, 204, 180, 54, 1, 192, 39, 102, 38, 129, 43, 155, 58, 253, 231], [162, 34, 130, 216, 245, 170, 46, 142, 24, 79, 193, 224, 126, 212, 117, 157, 23, 37, 51, 64, 105, 36, 220, 113, 51, 18, 147, 113, 186, 216, 49, 79], [238, 24, 240, 17, 41, 221, 122, 32, 163, 115, 126, 219, 119, 138, 119, 62, 165, 69, 211, 126, 138, 214, 9, 238, 100, 6, 154, 170, 12, 193, 129, 73], [82, 38, 109, 47, 242, 177, 10, 213, 233, 101, 64, 211, 29, 171, 72, 198, 33, 47, 114, 253, 100, 96, 190, 59, 142, 131, 165, 15, 78, 222, 43, 189], [127, 166, 53, 176, 186, 183, 82, 150, 195, 232, 83, 103, 119, 31, 16, 128, 47, 84, 173, 117, 73, 90, 209, 197, 175, 105, 127, 63, 204, 30, 184, 2], [97, 3, 121, 30, 201, 228, 162, 170, 60, 220, 21, 253, 68, 78, 73, 240, 84, 156, 180, 122, 9, 149, 153, 24, 102, 235, 72, 95, 119, 172, 150, 243]] : List (List Int)).getD j []
def wd3 (j : Nat) : List Int := ([[108, 101, 97, 102], [68, 49, 3, 1, 1, 97, 159, 145, 22, 31, 67, 67, 62, 73, 166, 222, 109, 182, 128, 215, 159, 96, 21, 159, 46, 74, 201, 23, 38, 33, 161, 40, 70, 66, 129, 88, 68, 11, 4, 1, 1, 98, 159, 145, 22, 31, 67, 67, 62, 73, 166, 222, 109, 182, 128, 215, 159, 96, 21, 159, 46, 74, 201, 23, 38, 33, 161, 40, 70, 66, 129, 88, 68, 11, 4, 1, 1, 99, 159, 145, 22, 31, 67, 67, 62, 73, 166, 222, 109, 182, 128, 215, 159, 96, 21, 159, 46, 74, 201, 23, 38, 33, 161, 40, 70, 66, 129, 88, 68, 11, 4], [68, 49, 3, 2, 1, 97, 46, 88, 218, 148, 142, 232, 95, 11, 146, 249, 222, 57, 17, 243, 228, 95, 120, 231, 130, 204, 250, 27, 210, 81, 130, 172, 137, 240, 59, 236, 214, 94, 0, 2, 1, 98, 46, 88, 218, 148, 142, 232, 95, 11, 146, 249, 222, 57, 17, 243, 228, 95, 120, 231, 130, 204, 250, 27, 210, 81, 130, 172, 137, 240, 59, 236, 214, 94, 0, 2, 1, 99, 46, 88, 218, 148, 142, 232, 95, 11, 146, 249, 222, 57, 17, 243, 228, 95, 120, 231, 130, 204, 250, 27, 210, 81, 130, 172, 137, 240, 59, 236, 214, 94, 0], [68, 49, 3, 2, 1, 97, 253, 116, 95, 221, 82, 62, 159, 38, 177, 174, 250, 145, 189, 6, 121, 159, 39, 245, 204, 180, 54, 1, 192, 39, 102, 38, 129, 43, 155, 58, 253, 231, 0, 2, 1, 98, 253, 116, 95, 221, 82, 62, 159, 38, 177, 174, 250, 145, 189, 6, 121, 159, 39, 245, 204, 180, 54, 1, 192, 39, 102, 38, 129, 43, 155, 58, 253, 231, 0, 2, 1, 99, 253, 116, 95, 221, 82, 62, 159, 38, 177, 174, 250, 145, 189, 6, 121, 159, 39, 245, 204, 180, 54, 1, 192, 39, 102, 38, 129, 43, 155, 58, 253, 231, 0], [68, 49, 3, 2, 1, 97, 162, 34, 130, 216, 245, 170, 46, 142, 24, 79, 193, 224, 126, 212, 117, 157, 23, 37, 51, 64, 105, 36, 220, 113, 51, 18, 147, 113, 186, 216, 49, 79, 0, 2, 1, 98, 162, 34, 130, 216, 245, 170, 46, 142, 24, 79, 193, 224, 126, 212, 117, 157, 23, 37, 51, 64, 105, 36, 220, 113, 51, 18, 147, 113, 186, 216, 49, 79, 0, 2, 1, 99, 162, 34, 130, 216, 245, 170, 46, 142, 24, 79, 193, 224, 126, 212, 117, 157, 23, 37, 51, 64, 105, 36, 220, 113, 51, 18, 147, 113, 186, 216, 49, 79, 0], [68, 49, 3, 2, 1, 97, 238, 24, 240, 17, 41, 221, 122, 32, 163, 115, 126, 219, 119, 138, 119, 62, 165, 69, 211, 126, 138, 214, 9, 238, 100, 6, 154, 170, 12, 193, 129, 73, 0, 2, 1, 98, 238, 24, 240, 17, 41, 221, 122, 32, 163, 115, 126, 219, 119, 138, 119, 62, 165, 69, 211, 126, 138, 214, 9, 238, 100, 6, 154, 170, 12, 193, 129, 73, 0, 2, 1, 99, 238, 24, 240, 17, 41, 221, 122, 32, 163, 115, 126, 219, 119, 138, 119, 62, 165, 69, 211, 126, 138, 214, 9, 238, 100, 6, 154, 170, 12, 193, 129, 73, 0], [68, 49, 3, 2, 1, 97, 82, 38, 109, 47, 242, 177, 10, 213, 233, 101, 64, 211, 29, 171, 72, 198, 33, 47, 114, 253, 100, 96, 190, 59, 142, 131, 165, 15, 78, 222, 43, 189, 0, 2, 1, 98, 82, 38, 109, 47, 242, 177, 10, 213, 233, 101, 64, 211, 29, 171, 72, 198, 33, 47, 114, 253, 100, 96, 190, 59, 142, 131, 165, 15, 78, 222, 43, 189, 0, 2, 1, 99, 82, 38, 109, 47, 242, 177, 10, 213, 233, 101, 64, 211, 29, 171, 72, 198, 33, 47, 114, 253, 100, 96, 190, 59, 142, 131, 165, 15, 78, 222, 43, 189, 0], [68, 49, 3, 2, 1, 97, 127, 166, 53, 176, 186, 183, 82, 150, 195, 232, 83, 103, 119, 31, 16, 128, 47, 84, 173, 117, 73, 90, 209, 197, 175, 105, 127, 63, 204, 30, 184, 2, 0, 2, 1, 98, 127, 166, 53, 176, 186, 183, 82, 150, 195, 232, 83, 103, 119, 31, 16, 128, 47, 84, 173, 117, 73, 90, 209, 197, 175, 105, 127, 63, 204, 30, 184, 2, 0, 2, 1, 99, 127, 166, 53, 176, 186, 183, 82, 150, 195, 232, 83, 103, 119, 31, 16, 128, 47, 84, 173, 117, 73, 90, 209, 197, 175, 105, 127, 63, 204, 30, 184, 2, 0]] : List (List Int)).getD j []
set_option maxRecDepth 1000000 in
theorem wb3_0 (k : Nat) : cofferref15_Bytes.f (k + 1000) (itemsOf 3 wn3 0) = some (wd3 1, 0) := by kernel_rfl
set_option maxRecDepth 1000000 in
theorem wh3_0 : shaF (wd3 1) = wn3 1 := by kernel_rfl
set_option maxRecDepth 1000000 in
theorem wt3_0 (k : Nat) : folder_Take.f (k + 1000) (wd3 1) = some (itemsOf 3 wn3 0, 0) := by kernel_rfl
set_option maxRecDepth 1000000 in
theorem wb3_1 (k : Nat) : cofferref15_Bytes.f (k + 1000) (itemsOf 3 wn3 1) = some (wd3 2, 0) := by kernel_rfl
set_option maxRecDepth 1000000 in
theorem wh3_1 : shaF (wd3 2) = wn3 2 := by kernel_rfl
set_option maxRecDepth 1000000 in
theorem wt3_1 (k : Nat) : folder_Take.f (k + 1000) (wd3 2) = some (itemsOf 3 wn3 1, 0) := by kernel_rfl
set_option maxRecDepth 1000000 in
theorem wb3_2 (k : Nat) : cofferref15_Bytes.f (k + 1000) (itemsOf 3 wn3 2) = some (wd3 3, 0) := by kernel_rfl
set_option maxRecDepth 1000000 in
theorem wh3_2 : shaF (wd3 3) = wn3 3 := by kernel_rfl
set_option maxRecDepth 1000000 in
theorem wt3_2 (k : Nat) : folder_Take.f (k + 1000) (wd3 3) = some (itemsOf 3 wn3 2, 0) := by kernel_rfl
set_option maxRecDepth 1000000 in
theorem wb3_3 (k : Nat) : cofferref15_Bytes.f (k + 1000) (itemsOf 3 wn3 3) = some (wd3 4, 0) := by kernel_rfl
set_option maxRecDepth 1000000 in
theorem wh3_3 : shaF (wd3 4) = wn3 4 := by kernel_rfl
set_option maxRecDepth 1000000 in
theorem wt3_3 (k : Nat) : folder_Take.f (k + 1000) (wd3 4) = some (itemsOf 3 wn3 3, 0) := by kernel_rfl
set_option maxRecDepth 1000000 in
theorem wb3_4 (k : Nat) : cofferref15_Bytes.f (k + 1000) (itemsOf 3 wn3 4) = some (wd3 5, 0) := by kernel_rfl
set_option maxRecDepth 1000000 in
theorem wh3_4 : shaF (wd3 5) = wn3 5 := by kernel_rfl
set_option maxRecDepth 1000000 in
theorem wt3_4 (k : Nat) : folder_Take.f (k + 1000) (wd3 5) = some (itemsOf 3 wn3 4, 0) := by kernel_rfl
set_option maxRecDepth 1000000 in
theorem wb3_5 (k : Nat) : cofferref15_Bytes.f (k + 1000) (itemsOf 3 wn3 5) = some (wd3 6, 0) := by kernel_rfl
set_option maxRecDepth 1000000 in
theorem wh3_5 : shaF (wd3 6) = wn3 6 := by kernel_rfl
set_option maxRecDepth 1000000 in
theorem wt3_5 (k : Nat) : folder_Take.f (k + 1000) (wd3 6) = some (itemsOf 3 wn3 5, 0) := by kernel_rfl
set_option maxRecDepth 1000000 in
theorem wb3_6 (k : Nat) : cofferref15_Bytes.f (k + 1000) (itemsOf 3 wn3 6) = some (wd3 7, 0) := by kernel_rfl
set_option maxRecDepth 1000000 in
theorem wh3_6 : shaF (wd3 7) = wn3 7 := by kernel_rfl
set_option maxRecDepth 1000000 in
theorem wt3_6 (k : Nat) : folder_Take.f (k + 1000) (wd3 7) = some (itemsOf 3 wn3 6, 0) := by kernel_rfl
set_option maxRecDepth 1000000 in
theorem wl3 : shaF (wd3 0) = wn3 0 := by kernel_rfl
set_option maxRecDepth 1000000 in
theorem wa3 : apartN wn3 = true := by kernel_rfl
set_option maxRecDepth 1000000 in
theorem made3 : Made 3 wn3 wd3 where
  chain := ⟨by decide, by decide, forall7 wt3_0 wt3_1 wt3_2 wt3_3 wt3_4 wt3_5 wt3_6, inj_of wa3, rfl⟩
  leaf := rfl
  of := fun k hk => by rw [Of_is _ (by decide) k (by have : (wd3 0).length = 4 := rfl; omega), shaF_is, wl3]
  folder := forall7 (Folder_is wb3_0 (Nat.le_of_ble_eq_true (by kernel_rfl)) wh3_0) (Folder_is wb3_1 (Nat.le_of_ble_eq_true (by kernel_rfl)) wh3_1) (Folder_is wb3_2 (Nat.le_of_ble_eq_true (by kernel_rfl)) wh3_2) (Folder_is wb3_3 (Nat.le_of_ble_eq_true (by kernel_rfl)) wh3_3) (Folder_is wb3_4 (Nat.le_of_ble_eq_true (by kernel_rfl)) wh3_4) (Folder_is wb3_5 (Nat.le_of_ble_eq_true (by kernel_rfl)) wh3_5) (Folder_is wb3_6 (Nat.le_of_ble_eq_true (by kernel_rfl)) wh3_6)
end Go.Proofs.Ytbcipfhhmkjigaa
