/- Types of the program as Lean types; facts on the table of types. -/
import Derived.Test.YtbcipfhhmkjigaaCfR
import Derived.Test.YtbcipfhhmkjigaaProg
import Derived.KernelRfl
open Go Go.Cf Go.Proofs
namespace Go.Proofs.Ytbcipfhhmkjigaa

structure Api_Object where
  Of : (List Int)
  Data : (List Int)
  deriving DecidableEq
def rApi_Object : Rep Api_Object := rMap (rProd (rArr 32 (rInt .u8)) (rSl 1 (rInt .u8))) (fun x => (x.Of, x.Data)) (fun p => ⟨p.1, p.2⟩) (fun _ => rfl)
def Api_Object.set_Of (x : Api_Object) (y : (List Int)) : Api_Object := { x with Of := y }
theorem fl_Api_Object_Of : Fld rApi_Object 0 (rArr 32 (rInt .u8)) (fun _ => True) (fun x => x.Of) (fun x y => x.set_Of y) := Fld.to (Fld.map _ _ (fun _ => rfl) (Fld.fst _ _)) rfl (fun _ _ => by simp) (fun _ => rfl) (fun _ _ => rfl)
def Api_Object.set_Data (x : Api_Object) (y : (List Int)) : Api_Object := { x with Data := y }
theorem fl_Api_Object_Data : Fld rApi_Object 32 (rSl 1 (rInt .u8)) (fun _ => True) (fun x => x.Data) (fun x y => x.set_Data y) := Fld.to (Fld.map _ _ (fun _ => rfl) (Fld.snd _ _)) rfl (fun _ _ => by simp) (fun _ => rfl) (fun _ _ => rfl)

structure Walk_way where
  objects : Value
  met : Value
  count : Int
  tell : Bool
  files : Value
  error : Int
def rWalk_way : Rep Walk_way := rMap (rProd (rVal (.map none) rfl) (rProd (rVal (.map none) rfl) (rProd (rInt .i64) (rProd rBool (rProd (rVal (.slice none 0 0) rfl) (rInt .i64)))))) (fun x => (x.objects, x.met, x.count, x.tell, x.files, x.error)) (fun p => ⟨p.1, p.2.1, p.2.2.1, p.2.2.2.1, p.2.2.2.2.1, p.2.2.2.2.2⟩) (fun _ => rfl)
def Walk_way.set_objects (x : Walk_way) (y : Value) : Walk_way := { x with objects := y }
theorem fl_Walk_way_objects : Fld rWalk_way 0 (rVal (.map none) rfl) (fun _ => True) (fun x => x.objects) (fun x y => x.set_objects y) := Fld.to (Fld.map _ _ (fun _ => rfl) (Fld.fst _ _)) rfl (fun _ _ => by simp) (fun _ => rfl) (fun _ _ => rfl)
def Walk_way.set_met (x : Walk_way) (y : Value) : Walk_way := { x with met := y }
theorem fl_Walk_way_met : Fld rWalk_way 1 (rVal (.map none) rfl) (fun _ => True) (fun x => x.met) (fun x y => x.set_met y) := Fld.to (Fld.map _ _ (fun _ => rfl) (Fld.trans (Fld.snd _ _) (Fld.fst _ _))) rfl (fun _ _ => by simp) (fun _ => rfl) (fun _ _ => rfl)
def Walk_way.set_count (x : Walk_way) (y : Int) : Walk_way := { x with count := y }
theorem fl_Walk_way_count : Fld rWalk_way 2 (rInt .i64) (fun _ => True) (fun x => x.count) (fun x y => x.set_count y) := Fld.to (Fld.map _ _ (fun _ => rfl) (Fld.trans (Fld.snd _ _) (Fld.trans (Fld.snd _ _) (Fld.fst _ _)))) rfl (fun _ _ => by simp) (fun _ => rfl) (fun _ _ => rfl)
def Walk_way.set_tell (x : Walk_way) (y : Bool) : Walk_way := { x with tell := y }
theorem fl_Walk_way_tell : Fld rWalk_way 3 rBool (fun _ => True) (fun x => x.tell) (fun x y => x.set_tell y) := Fld.to (Fld.map _ _ (fun _ => rfl) (Fld.trans (Fld.snd _ _) (Fld.trans (Fld.snd _ _) (Fld.trans (Fld.snd _ _) (Fld.fst _ _))))) rfl (fun _ _ => by simp) (fun _ => rfl) (fun _ _ => rfl)
def Walk_way.set_files (x : Walk_way) (y : Value) : Walk_way := { x with files := y }
theorem fl_Walk_way_files : Fld rWalk_way 4 (rVal (.slice none 0 0) rfl) (fun _ => True) (fun x => x.files) (fun x y => x.set_files y) := Fld.to (Fld.map _ _ (fun _ => rfl) (Fld.trans (Fld.snd _ _) (Fld.trans (Fld.snd _ _) (Fld.trans (Fld.snd _ _) (Fld.trans (Fld.snd _ _) (Fld.fst _ _)))))) rfl (fun _ _ => by simp) (fun _ => rfl) (fun _ _ => rfl)
def Walk_way.set_error (x : Walk_way) (y : Int) : Walk_way := { x with error := y }
theorem fl_Walk_way_error : Fld rWalk_way 5 (rInt .i64) (fun _ => True) (fun x => x.error) (fun x y => x.set_error y) := Fld.to (Fld.map _ _ (fun _ => rfl) (Fld.trans (Fld.snd _ _) (Fld.trans (Fld.snd _ _) (Fld.trans (Fld.snd _ _) (Fld.trans (Fld.snd _ _) (Fld.snd _ _)))))) rfl (fun _ _ => by simp) (fun _ => rfl) (fun _ _ => rfl)

structure Api_File where
  Path : (List Int)
  Dir : Bool
  Data : (List Int)
  deriving DecidableEq
def rApi_File : Rep Api_File := rMap (rProd rStr (rProd rBool (rSl 1 (rInt .u8)))) (fun x => (x.Path, x.Dir, x.Data)) (fun p => ⟨p.1, p.2.1, p.2.2⟩) (fun _ => rfl)
def Api_File.set_Path (x : Api_File) (y : (List Int)) : Api_File := { x with Path := y }
theorem fl_Api_File_Path : Fld rApi_File 0 rStr (fun _ => True) (fun x => x.Path) (fun x y => x.set_Path y) := Fld.to (Fld.map _ _ (fun _ => rfl) (Fld.fst _ _)) rfl (fun _ _ => by simp) (fun _ => rfl) (fun _ _ => rfl)
def Api_File.set_Dir (x : Api_File) (y : Bool) : Api_File := { x with Dir := y }
theorem fl_Api_File_Dir : Fld rApi_File 1 rBool (fun _ => True) (fun x => x.Dir) (fun x y => x.set_Dir y) := Fld.to (Fld.map _ _ (fun _ => rfl) (Fld.trans (Fld.snd _ _) (Fld.fst _ _))) rfl (fun _ _ => by simp) (fun _ => rfl) (fun _ _ => rfl)
def Api_File.set_Data (x : Api_File) (y : (List Int)) : Api_File := { x with Data := y }
theorem fl_Api_File_Data : Fld rApi_File 2 (rSl 1 (rInt .u8)) (fun _ => True) (fun x => x.Data) (fun x y => x.set_Data y) := Fld.to (Fld.map _ _ (fun _ => rfl) (Fld.trans (Fld.snd _ _) (Fld.snd _ _))) rfl (fun _ _ => by simp) (fun _ => rfl) (fun _ _ => rfl)

structure Api_Item where
  Name : (List Int)
  Kind : Int
  Of : (List Int)
  Size : Int
  deriving DecidableEq
def rApi_Item : Rep Api_Item := rMap (rProd rStr (rProd (rInt .i64) (rProd (rArr 32 (rInt .u8)) (rInt .i64)))) (fun x => (x.Name, x.Kind, x.Of, x.Size)) (fun p => ⟨p.1, p.2.1, p.2.2.1, p.2.2.2⟩) (fun _ => rfl)
theorem flat_Api_Item : Flat rApi_Item := Flat.map (Flat.prod Flat.str (Flat.prod Flat.int (Flat.prod (Flat.arr Flat.int) Flat.int)))
def Api_Item.set_Name (x : Api_Item) (y : (List Int)) : Api_Item := { x with Name := y }
theorem fl_Api_Item_Name : Fld rApi_Item 0 rStr (fun _ => True) (fun x => x.Name) (fun x y => x.set_Name y) := Fld.to (Fld.map _ _ (fun _ => rfl) (Fld.fst _ _)) rfl (fun _ _ => by simp) (fun _ => rfl) (fun _ _ => rfl)
def Api_Item.set_Kind (x : Api_Item) (y : Int) : Api_Item := { x with Kind := y }
theorem fl_Api_Item_Kind : Fld rApi_Item 1 (rInt .i64) (fun _ => True) (fun x => x.Kind) (fun x y => x.set_Kind y) := Fld.to (Fld.map _ _ (fun _ => rfl) (Fld.trans (Fld.snd _ _) (Fld.fst _ _))) rfl (fun _ _ => by simp) (fun _ => rfl) (fun _ _ => rfl)
def Api_Item.set_Of (x : Api_Item) (y : (List Int)) : Api_Item := { x with Of := y }
theorem fl_Api_Item_Of : Fld rApi_Item 2 (rArr 32 (rInt .u8)) (fun _ => True) (fun x => x.Of) (fun x y => x.set_Of y) := Fld.to (Fld.map _ _ (fun _ => rfl) (Fld.trans (Fld.snd _ _) (Fld.trans (Fld.snd _ _) (Fld.fst _ _)))) rfl (fun _ _ => by simp) (fun _ => rfl) (fun _ _ => rfl)
def Api_Item.set_Size (x : Api_Item) (y : Int) : Api_Item := { x with Size := y }
theorem fl_Api_Item_Size : Fld rApi_Item 34 (rInt .i64) (fun _ => True) (fun x => x.Size) (fun x y => x.set_Size y) := Fld.to (Fld.map _ _ (fun _ => rfl) (Fld.trans (Fld.snd _ _) (Fld.trans (Fld.snd _ _) (Fld.snd _ _)))) rfl (fun _ _ => by simp) (fun _ => rfl) (fun _ _ => rfl)

structure Cofferref17_todo where
  item : Api_Item
  deep : Int
  path : (List Int)
  deriving DecidableEq
def rCofferref17_todo : Rep Cofferref17_todo := rMap (rProd rApi_Item (rProd (rInt .i64) rStr)) (fun x => (x.item, x.deep, x.path)) (fun p => ⟨p.1, p.2.1, p.2.2⟩) (fun _ => rfl)
theorem flat_Cofferref17_todo : Flat rCofferref17_todo := Flat.map (Flat.prod flat_Api_Item (Flat.prod Flat.int Flat.str))
def Cofferref17_todo.set_item (x : Cofferref17_todo) (y : Api_Item) : Cofferref17_todo := { x with item := y }
theorem fl_Cofferref17_todo_item : Fld rCofferref17_todo 0 rApi_Item (fun _ => True) (fun x => x.item) (fun x y => x.set_item y) := Fld.to (Fld.map _ _ (fun _ => rfl) (Fld.fst _ _)) rfl (fun _ _ => by simp) (fun _ => rfl) (fun _ _ => rfl)
def Cofferref17_todo.set_deep (x : Cofferref17_todo) (y : Int) : Cofferref17_todo := { x with deep := y }
theorem fl_Cofferref17_todo_deep : Fld rCofferref17_todo 35 (rInt .i64) (fun _ => True) (fun x => x.deep) (fun x y => x.set_deep y) := Fld.to (Fld.map _ _ (fun _ => rfl) (Fld.trans (Fld.snd _ _) (Fld.fst _ _))) rfl (fun _ _ => by simp) (fun _ => rfl) (fun _ _ => rfl)
def Cofferref17_todo.set_path (x : Cofferref17_todo) (y : (List Int)) : Cofferref17_todo := { x with path := y }
theorem fl_Cofferref17_todo_path : Fld rCofferref17_todo 36 rStr (fun _ => True) (fun x => x.path) (fun x y => x.set_path y) := Fld.to (Fld.map _ _ (fun _ => rfl) (Fld.trans (Fld.snd _ _) (Fld.snd _ _))) rfl (fun _ _ => by simp) (fun _ => rfl) (fun _ _ => rfl)

theorem ty2 : TyOk Try.prog 2 (rInt .i64) 8 := ty_of (by kernel_rfl) Try.underlying2 rfl
theorem ty3 : TyOk Try.prog 3 (rInt .i64) 8 := ty_of (by kernel_rfl) Try.underlying3 rfl
theorem ty4 : TyOk Try.prog 4 rBool 1 := ty_of (by kernel_rfl) Try.underlying4 rfl
theorem ty5 : TyOk Try.prog 5 (rInt .u8) 1 := ty_of (by kernel_rfl) Try.underlying5 rfl
theorem ty9 : TyOk Try.prog 9 rStr 16 := ty_of (by kernel_rfl) Try.underlying9 rfl
theorem ty29 : TyOk Try.prog 29 (rArr 32 (rInt .u8)) 32 := ty_of (by kernel_rfl) Try.underlying29 rfl
theorem ty32 : TyOk Try.prog 32 (rSl 1 (rInt .u8)) 24 := ty_of (by kernel_rfl) Try.underlying32 rfl
theorem ty34 : TyOk Try.prog 34 rApi_Object 56 := ty_of (by kernel_rfl) Try.underlying34 rfl
theorem ty37 : TyOk Try.prog 37 (rInt .i64) 8 := ty_of (by kernel_rfl) Try.underlying37 rfl
theorem ty40 : TyOk Try.prog 40 (rSl 48 rApi_File) 24 := ty_of (by kernel_rfl) Try.underlying40 rfl
theorem ty48 : TyOk Try.prog 48 rApi_File 48 := ty_of (by kernel_rfl) Try.underlying48 rfl
theorem ty54 : TyOk Try.prog 54 rApi_Item 64 := ty_of (by kernel_rfl) Try.underlying54 rfl
theorem ty67 : TyOk Try.prog 67 (rMp (rArr 32 (rInt .u8)) (rSl 1 (rInt .u8))) 8 := ty_of (by kernel_rfl) Try.underlying67 rfl
theorem ty68 : TyOk Try.prog 68 (rMp (rArr 32 (rInt .u8)) (rInt .i64)) 8 := ty_of (by kernel_rfl) Try.underlying68 rfl
theorem ty70 : TyOk Try.prog 70 rWalk_way 64 := ty_of (by kernel_rfl) Try.underlying70 rfl
theorem ty78 : TyOk Try.prog 78 rCofferref17_todo 88 := ty_of (by kernel_rfl) Try.underlying78 rfl
theorem ty91 : TyOk Try.prog 91 (rInt .u64) 8 := ty_of (by kernel_rfl) Try.underlying91 rfl
theorem ty101 : TyOk Try.prog 101 (rArr 64 (rInt .u64)) 512 := ty_of (by kernel_rfl) Try.underlying101 rfl
theorem ty103 : TyOk Try.prog 103 (rArr 8 (rInt .u64)) 64 := ty_of (by kernel_rfl) Try.underlying103 rfl
theorem tyr40 : TyOk Try.prog 40 (rVal (.slice none 0 0) rfl) 24 := ty_of (by kernel_rfl) Try.underlying40 rfl
theorem tyr67 : TyOk Try.prog 67 (rVal (.map none) rfl) 8 := ty_of (by kernel_rfl) Try.underlying67 rfl
theorem tyr68 : TyOk Try.prog 68 (rVal (.map none) rfl) 8 := ty_of (by kernel_rfl) Try.underlying68 rfl
theorem fo34_0 : FieldOff Try.prog 34 0 0 := fo_of Try.underlying34 rfl rfl ty29 rfl
theorem fo34_1 : FieldOff Try.prog 34 1 32 := fo_of Try.underlying34 rfl rfl ty32 rfl
theorem fo48_0 : FieldOff Try.prog 48 0 0 := fo_of Try.underlying48 rfl rfl ty9 rfl
theorem fo48_1 : FieldOff Try.prog 48 1 1 := fo_of Try.underlying48 rfl rfl ty4 rfl
theorem fo48_2 : FieldOff Try.prog 48 2 2 := fo_of Try.underlying48 rfl rfl ty32 rfl
theorem fo54_0 : FieldOff Try.prog 54 0 0 := fo_of Try.underlying54 rfl rfl ty9 rfl
theorem fo54_1 : FieldOff Try.prog 54 1 1 := fo_of Try.underlying54 rfl rfl ty3 rfl
theorem fo54_2 : FieldOff Try.prog 54 2 2 := fo_of Try.underlying54 rfl rfl ty29 rfl
theorem fo54_3 : FieldOff Try.prog 54 3 34 := fo_of Try.underlying54 rfl rfl ty2 rfl
theorem fo70_0 : FieldOff Try.prog 70 0 0 := fo_of Try.underlying70 rfl rfl ty67 rfl
theorem fo70_1 : FieldOff Try.prog 70 1 1 := fo_of Try.underlying70 rfl rfl ty68 rfl
theorem fo70_2 : FieldOff Try.prog 70 2 2 := fo_of Try.underlying70 rfl rfl ty3 rfl
theorem fo70_3 : FieldOff Try.prog 70 3 3 := fo_of Try.underlying70 rfl rfl ty4 rfl
theorem fo70_4 : FieldOff Try.prog 70 4 4 := fo_of Try.underlying70 rfl rfl ty40 rfl
theorem fo70_5 : FieldOff Try.prog 70 5 5 := fo_of Try.underlying70 rfl rfl ty37 rfl
theorem fo78_0 : FieldOff Try.prog 78 0 0 := fo_of Try.underlying78 rfl rfl ty54 rfl
theorem fo78_1 : FieldOff Try.prog 78 1 35 := fo_of Try.underlying78 rfl rfl ty3 rfl
theorem fo78_2 : FieldOff Try.prog 78 2 36 := fo_of Try.underlying78 rfl rfl ty9 rfl
theorem hfn9 : HasFn Try.prog 9 := ⟨Try.f9, Try.func9, by decide, _, rfl⟩
theorem hfn12 : HasFn Try.prog 12 := ⟨Try.f12, Try.func12, by decide, _, rfl⟩
theorem hfn16 : HasFn Try.prog 16 := ⟨Try.f16, Try.func16, by decide, _, rfl⟩
theorem hfn17 : HasFn Try.prog 17 := ⟨Try.f17, Try.func17, by decide, _, rfl⟩
theorem hfn18 : HasFn Try.prog 18 := ⟨Try.f18, Try.func18, by decide, _, rfl⟩
theorem hfn19 : HasFn Try.prog 19 := ⟨Try.f19, Try.func19, by decide, _, rfl⟩
theorem hfn20 : HasFn Try.prog 20 := ⟨Try.f20, Try.func20, by decide, _, rfl⟩
theorem hfn21 : HasFn Try.prog 21 := ⟨Try.f21, Try.func21, by decide, _, rfl⟩
theorem hfn22 : HasFn Try.prog 22 := ⟨Try.f22, Try.func22, by decide, _, rfl⟩
theorem hfn24 : HasFn Try.prog 24 := ⟨Try.f24, Try.func24, by decide, _, rfl⟩
theorem hfn25 : HasFn Try.prog 25 := ⟨Try.f25, Try.func25, by decide, _, rfl⟩
theorem hfn28 : HasFn Try.prog 28 := ⟨Try.f28, Try.func28, by decide, _, rfl⟩
theorem hfn29 : HasFn Try.prog 29 := ⟨Try.f29, Try.func29, by decide, _, rfl⟩
theorem hfn30 : HasFn Try.prog 30 := ⟨Try.f30, Try.func30, by decide, _, rfl⟩
theorem hfn31 : HasFn Try.prog 31 := ⟨Try.f31, Try.func31, by decide, _, rfl⟩
theorem hfn32 : HasFn Try.prog 32 := ⟨Try.f32, Try.func32, by decide, _, rfl⟩
theorem hfn33 : HasFn Try.prog 33 := ⟨Try.f33, Try.func33, by decide, _, rfl⟩
theorem hfn35 : HasFn Try.prog 35 := ⟨Try.f35, Try.func35, by decide, _, rfl⟩
theorem hfn36 : HasFn Try.prog 36 := ⟨Try.f36, Try.func36, by decide, _, rfl⟩
theorem hfn37 : HasFn Try.prog 37 := ⟨Try.f37, Try.func37, by decide, _, rfl⟩
theorem hfn42 : HasFn Try.prog 42 := ⟨Try.f42, Try.func42, by decide, _, rfl⟩
theorem hfn43 : HasFn Try.prog 43 := ⟨Try.f43, Try.func43, by decide, _, rfl⟩
theorem hfn44 : HasFn Try.prog 44 := ⟨Try.f44, Try.func44, by decide, _, rfl⟩
theorem hfn45 : HasFn Try.prog 45 := ⟨Try.f45, Try.func45, by decide, _, rfl⟩
theorem hfn46 : HasFn Try.prog 46 := ⟨Try.f46, Try.func46, by decide, _, rfl⟩
theorem hfn47 : HasFn Try.prog 47 := ⟨Try.f47, Try.func47, by decide, _, rfl⟩
theorem hfn48 : HasFn Try.prog 48 := ⟨Try.f48, Try.func48, by decide, _, rfl⟩
theorem hfn52 : HasFn Try.prog 52 := ⟨Try.f52, Try.func52, by decide, _, rfl⟩
theorem hfn53 : HasFn Try.prog 53 := ⟨Try.f53, Try.func53, by decide, _, rfl⟩
theorem hfn54 : HasFn Try.prog 54 := ⟨Try.f54, Try.func54, by decide, _, rfl⟩
theorem hfn55 : HasFn Try.prog 55 := ⟨Try.f55, Try.func55, by decide, _, rfl⟩
theorem hfn56 : HasFn Try.prog 56 := ⟨Try.f56, Try.func56, by decide, _, rfl⟩
theorem hfn60 : HasFn Try.prog 60 := ⟨Try.f60, Try.func60, by decide, _, rfl⟩
theorem hfn61 : HasFn Try.prog 61 := ⟨Try.f61, Try.func61, by decide, _, rfl⟩
theorem hfn62 : HasFn Try.prog 62 := ⟨Try.f62, Try.func62, by decide, _, rfl⟩
theorem hfn63 : HasFn Try.prog 63 := ⟨Try.f63, Try.func63, by decide, _, rfl⟩
theorem hfn64 : HasFn Try.prog 64 := ⟨Try.f64, Try.func64, by decide, _, rfl⟩
theorem hfn66 : HasFn Try.prog 66 := ⟨Try.f66, Try.func66, by decide, _, rfl⟩
theorem hfn67 : HasFn Try.prog 67 := ⟨Try.f67, Try.func67, by decide, _, rfl⟩
theorem hfn68 : HasFn Try.prog 68 := ⟨Try.f68, Try.func68, by decide, _, rfl⟩
theorem hfn79 : HasFn Try.prog 79 := ⟨Try.f79, Try.func79, by decide, _, rfl⟩
theorem hfn80 : HasFn Try.prog 80 := ⟨Try.f80, Try.func80, by decide, _, rfl⟩
theorem hfn81 : HasFn Try.prog 81 := ⟨Try.f81, Try.func81, by decide, _, rfl⟩
theorem hfn87 : HasFn Try.prog 87 := ⟨Try.f87, Try.func87, by decide, _, rfl⟩
theorem hfn88 : HasFn Try.prog 88 := ⟨Try.f88, Try.func88, by decide, _, rfl⟩
theorem mixed : Try.prog.follows .mixedOrders = true := by kernel_rfl
theorem pl34 : placesOf Try.prog 34 = some [(0, 32), (32, 1)] := by kernel_rfl
theorem pl48 : placesOf Try.prog 48 = some [(0, 1), (1, 1), (2, 1)] := by kernel_rfl
theorem pl54 : placesOf Try.prog 54 = some [(0, 1), (1, 1), (2, 32), (34, 1)] := by kernel_rfl
theorem pl70 : placesOf Try.prog 70 = some [(0, 1), (1, 1), (2, 1), (3, 1), (4, 1), (5, 1)] := by kernel_rfl
theorem pl78 : placesOf Try.prog 78 = some [(0, 35), (35, 1), (36, 1)] := by kernel_rfl
end Go.Proofs.Ytbcipfhhmkjigaa
