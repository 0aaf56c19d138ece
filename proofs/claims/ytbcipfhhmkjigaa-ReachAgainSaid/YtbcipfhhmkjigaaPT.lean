/- Types of the program as Lean types; facts on the table of types. -/
import Derived.Test.YtbcipfhhmkjigaaCfL
import Derived.Test.YtbcipfhhmkjigaaProg
import Derived.KernelRfl
open Go Go.Cf Go.Proofs
namespace Go.Proofs.Ytbcipfhhmkjigaa

structure Reach_object where
  data : (List Int)
  reached : Bool
  deriving DecidableEq
def rReach_object : Rep Reach_object := rMap (rProd (rSl 1 (rInt .u8)) rBool) (fun x => (x.data, x.reached)) (fun p => ⟨p.1, p.2⟩) (fun _ => rfl)
def Reach_object.set_data (x : Reach_object) (y : (List Int)) : Reach_object := { x with data := y }
theorem fl_Reach_object_data : Fld rReach_object 0 (rSl 1 (rInt .u8)) (fun _ => True) (fun x => x.data) (fun x y => x.set_data y) := Fld.to (Fld.map _ _ (fun _ => rfl) (Fld.fst _ _)) rfl (fun _ _ => by simp) (fun _ => rfl) (fun _ _ => rfl)
def Reach_object.set_reached (x : Reach_object) (y : Bool) : Reach_object := { x with reached := y }
theorem fl_Reach_object_reached : Fld rReach_object 1 rBool (fun _ => True) (fun x => x.reached) (fun x y => x.set_reached y) := Fld.to (Fld.map _ _ (fun _ => rfl) (Fld.snd _ _)) rfl (fun _ _ => by simp) (fun _ => rfl) (fun _ _ => rfl)

structure Api_Item where
  Name : (List Int)
  Kind : Int
  Of : (List Int)
  Size : Int
  deriving DecidableEq
def rApi_Item : Rep Api_Item := rMap (rProd rStr (rProd (rInt .i64) (rProd (rArr 32 (rInt .u8)) (rInt .i64)))) (fun x => (x.Name, x.Kind, x.Of, x.Size)) (fun p => ⟨p.1, p.2.1, p.2.2.1, p.2.2.2⟩) (fun _ => rfl)
theorem flat_Api_Item : Flat rApi_Item := Flat.map (Flat.prod Flat.str (Flat.prod Flat.int (Flat.prod (Flat.arr Flat.int) Flat.int)))
def Api_Item.set_Name (x : Api_Item) (y : (List Int)) : Api_Item := { x with Name := y }
theorem fl_Api_Item_Name : Fld rApi_Item 0 rStr (fun _ => True) (fun x => x.Name) (fun x y => x.set_Name y) := Fld.to (Fld.map _ _ (fun _ => rfl) (Fld.fst _ _)) rfl (fun _ _ => by simp) (fun _ => rfl) (fun _ _ => rfl)
def Api_Item.set_Kind (x : Api_Item) (y : Int) : Api_Item := { x with Kind := y }
theorem fl_Api_Item_Kind : Fld rApi_Item 1 (rInt .i64) (fun _ => True) (fun x => x.Kind) (fun x y => x.set_Kind y) := Fld.to (Fld.map _ _ (fun _ => rfl) (Fld.trans (Fld.snd _ _) (Fld.fst _ _))) rfl (fun _ _ => by simp) (fun _ => rfl) (fun _ _ => rfl)
def Api_Item.set_Of (x : Api_Item) (y : (List Int)) : Api_Item := { x with Of := y }
theorem fl_Api_Item_Of : Fld rApi_Item 2 (rArr 32 (rInt .u8)) (fun _ => True) (fun x => x.Of) (fun x y => x.set_Of y) := Fld.to (Fld.map _ _ (fun _ => rfl) (Fld.trans (Fld.snd _ _) (Fld.trans (Fld.snd _ _) (Fld.fst _ _)))) rfl (fun _ _ => by simp) (fun _ => rfl) (fun _ _ => rfl)
def Api_Item.set_Size (x : Api_Item) (y : Int) : Api_Item := { x with Size := y }
theorem fl_Api_Item_Size : Fld rApi_Item 34 (rInt .i64) (fun _ => True) (fun x => x.Size) (fun x y => x.set_Size y) := Fld.to (Fld.map _ _ (fun _ => rfl) (Fld.trans (Fld.snd _ _) (Fld.trans (Fld.snd _ _) (Fld.snd _ _)))) rfl (fun _ _ => by simp) (fun _ => rfl) (fun _ _ => rfl)

structure Api_Object where
  Of : (List Int)
  Data : (List Int)
  deriving DecidableEq
def rApi_Object : Rep Api_Object := rMap (rProd (rArr 32 (rInt .u8)) (rSl 1 (rInt .u8))) (fun x => (x.Of, x.Data)) (fun p => ⟨p.1, p.2⟩) (fun _ => rfl)
def Api_Object.set_Of (x : Api_Object) (y : (List Int)) : Api_Object := { x with Of := y }
theorem fl_Api_Object_Of : Fld rApi_Object 0 (rArr 32 (rInt .u8)) (fun _ => True) (fun x => x.Of) (fun x y => x.set_Of y) := Fld.to (Fld.map _ _ (fun _ => rfl) (Fld.fst _ _)) rfl (fun _ _ => by simp) (fun _ => rfl) (fun _ _ => rfl)
def Api_Object.set_Data (x : Api_Object) (y : (List Int)) : Api_Object := { x with Data := y }
theorem fl_Api_Object_Data : Fld rApi_Object 32 (rSl 1 (rInt .u8)) (fun _ => True) (fun x => x.Data) (fun x y => x.set_Data y) := Fld.to (Fld.map _ _ (fun _ => rfl) (Fld.snd _ _)) rfl (fun _ _ => by simp) (fun _ => rfl) (fun _ _ => rfl)

theorem ty2 : TyOk Try.prog 2 (rInt .i64) 8 := ty_of (by kernel_rfl) Try.underlying2 rfl
theorem ty3 : TyOk Try.prog 3 (rInt .i64) 8 := ty_of (by kernel_rfl) Try.underlying3 rfl
theorem ty4 : TyOk Try.prog 4 rBool 1 := ty_of (by kernel_rfl) Try.underlying4 rfl
theorem ty5 : TyOk Try.prog 5 (rInt .u8) 1 := ty_of (by kernel_rfl) Try.underlying5 rfl
theorem ty9 : TyOk Try.prog 9 rStr 16 := ty_of (by kernel_rfl) Try.underlying9 rfl
theorem ty29 : TyOk Try.prog 29 (rArr 32 (rInt .u8)) 32 := ty_of (by kernel_rfl) Try.underlying29 rfl
theorem ty32 : TyOk Try.prog 32 (rSl 1 (rInt .u8)) 24 := ty_of (by kernel_rfl) Try.underlying32 rfl
theorem ty34 : TyOk Try.prog 34 rApi_Object 56 := ty_of (by kernel_rfl) Try.underlying34 rfl
theorem ty54 : TyOk Try.prog 54 rApi_Item 64 := ty_of (by kernel_rfl) Try.underlying54 rfl
theorem ty85 : TyOk Try.prog 85 rReach_object 32 := ty_of (by kernel_rfl) Try.underlying85 rfl
theorem ty91 : TyOk Try.prog 91 (rInt .u64) 8 := ty_of (by kernel_rfl) Try.underlying91 rfl
theorem ty101 : TyOk Try.prog 101 (rArr 64 (rInt .u64)) 512 := ty_of (by kernel_rfl) Try.underlying101 rfl
theorem ty103 : TyOk Try.prog 103 (rArr 8 (rInt .u64)) 64 := ty_of (by kernel_rfl) Try.underlying103 rfl
theorem fo34_0 : FieldOff Try.prog 34 0 0 := fo_of Try.underlying34 rfl rfl ty29 rfl
theorem fo34_1 : FieldOff Try.prog 34 1 32 := fo_of Try.underlying34 rfl rfl ty32 rfl
theorem fo54_0 : FieldOff Try.prog 54 0 0 := fo_of Try.underlying54 rfl rfl ty9 rfl
theorem fo54_1 : FieldOff Try.prog 54 1 1 := fo_of Try.underlying54 rfl rfl ty3 rfl
theorem fo54_2 : FieldOff Try.prog 54 2 2 := fo_of Try.underlying54 rfl rfl ty29 rfl
theorem fo54_3 : FieldOff Try.prog 54 3 34 := fo_of Try.underlying54 rfl rfl ty2 rfl
theorem fo85_0 : FieldOff Try.prog 85 0 0 := fo_of Try.underlying85 rfl rfl ty32 rfl
theorem fo85_1 : FieldOff Try.prog 85 1 1 := fo_of Try.underlying85 rfl rfl ty4 rfl
theorem hfn8 : HasFn Try.prog 8 := ⟨Try.f8, Try.func8, by decide, _, rfl⟩
theorem hfn9 : HasFn Try.prog 9 := ⟨Try.f9, Try.func9, by decide, _, rfl⟩
theorem hfn10 : HasFn Try.prog 10 := ⟨Try.f10, Try.func10, by decide, _, rfl⟩
theorem hfn11 : HasFn Try.prog 11 := ⟨Try.f11, Try.func11, by decide, _, rfl⟩
theorem hfn12 : HasFn Try.prog 12 := ⟨Try.f12, Try.func12, by decide, _, rfl⟩
theorem hfn13 : HasFn Try.prog 13 := ⟨Try.f13, Try.func13, by decide, _, rfl⟩
theorem hfn14 : HasFn Try.prog 14 := ⟨Try.f14, Try.func14, by decide, _, rfl⟩
theorem hfn15 : HasFn Try.prog 15 := ⟨Try.f15, Try.func15, by decide, _, rfl⟩
theorem hfn16 : HasFn Try.prog 16 := ⟨Try.f16, Try.func16, by decide, _, rfl⟩
theorem hfn24 : HasFn Try.prog 24 := ⟨Try.f24, Try.func24, by decide, _, rfl⟩
theorem hfn25 : HasFn Try.prog 25 := ⟨Try.f25, Try.func25, by decide, _, rfl⟩
theorem hfn26 : HasFn Try.prog 26 := ⟨Try.f26, Try.func26, by decide, _, rfl⟩
theorem hfn27 : HasFn Try.prog 27 := ⟨Try.f27, Try.func27, by decide, _, rfl⟩
theorem hfn28 : HasFn Try.prog 28 := ⟨Try.f28, Try.func28, by decide, _, rfl⟩
theorem hfn29 : HasFn Try.prog 29 := ⟨Try.f29, Try.func29, by decide, _, rfl⟩
theorem hfn35 : HasFn Try.prog 35 := ⟨Try.f35, Try.func35, by decide, _, rfl⟩
theorem hfn36 : HasFn Try.prog 36 := ⟨Try.f36, Try.func36, by decide, _, rfl⟩
theorem hfn37 : HasFn Try.prog 37 := ⟨Try.f37, Try.func37, by decide, _, rfl⟩
theorem hfn41 : HasFn Try.prog 41 := ⟨Try.f41, Try.func41, by decide, _, rfl⟩
theorem hfn42 : HasFn Try.prog 42 := ⟨Try.f42, Try.func42, by decide, _, rfl⟩
theorem hfn43 : HasFn Try.prog 43 := ⟨Try.f43, Try.func43, by decide, _, rfl⟩
theorem hfn44 : HasFn Try.prog 44 := ⟨Try.f44, Try.func44, by decide, _, rfl⟩
theorem hfn45 : HasFn Try.prog 45 := ⟨Try.f45, Try.func45, by decide, _, rfl⟩
theorem hfn52 : HasFn Try.prog 52 := ⟨Try.f52, Try.func52, by decide, _, rfl⟩
theorem hfn53 : HasFn Try.prog 53 := ⟨Try.f53, Try.func53, by decide, _, rfl⟩
theorem hfn54 : HasFn Try.prog 54 := ⟨Try.f54, Try.func54, by decide, _, rfl⟩
theorem hfn55 : HasFn Try.prog 55 := ⟨Try.f55, Try.func55, by decide, _, rfl⟩
theorem hfn56 : HasFn Try.prog 56 := ⟨Try.f56, Try.func56, by decide, _, rfl⟩
theorem hfn60 : HasFn Try.prog 60 := ⟨Try.f60, Try.func60, by decide, _, rfl⟩
theorem hfn61 : HasFn Try.prog 61 := ⟨Try.f61, Try.func61, by decide, _, rfl⟩
theorem hfn62 : HasFn Try.prog 62 := ⟨Try.f62, Try.func62, by decide, _, rfl⟩
theorem hfn63 : HasFn Try.prog 63 := ⟨Try.f63, Try.func63, by decide, _, rfl⟩
theorem hfn66 : HasFn Try.prog 66 := ⟨Try.f66, Try.func66, by decide, _, rfl⟩
theorem hfn67 : HasFn Try.prog 67 := ⟨Try.f67, Try.func67, by decide, _, rfl⟩
theorem hfn68 : HasFn Try.prog 68 := ⟨Try.f68, Try.func68, by decide, _, rfl⟩
theorem hfn79 : HasFn Try.prog 79 := ⟨Try.f79, Try.func79, by decide, _, rfl⟩
theorem hfn80 : HasFn Try.prog 80 := ⟨Try.f80, Try.func80, by decide, _, rfl⟩
theorem hfn81 : HasFn Try.prog 81 := ⟨Try.f81, Try.func81, by decide, _, rfl⟩
theorem hfn87 : HasFn Try.prog 87 := ⟨Try.f87, Try.func87, by decide, _, rfl⟩
theorem hfn88 : HasFn Try.prog 88 := ⟨Try.f88, Try.func88, by decide, _, rfl⟩
theorem mixed : Try.prog.follows .mixedOrders = true := by kernel_rfl
theorem pl34 : placesOf Try.prog 34 = some [(0, 32), (32, 1)] := by kernel_rfl
theorem pl54 : placesOf Try.prog 54 = some [(0, 1), (1, 1), (2, 32), (34, 1)] := by kernel_rfl
theorem pl85 : placesOf Try.prog 85 = some [(0, 1), (1, 1)] := by kernel_rfl
end Go.Proofs.Ytbcipfhhmkjigaa
