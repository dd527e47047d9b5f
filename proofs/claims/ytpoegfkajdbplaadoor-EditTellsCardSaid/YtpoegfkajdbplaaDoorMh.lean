import Derived.Test.YtpoegfkajdbplaaDoorMc
import Derived.Test.YtpoegfkajdbplaaDoorProg
import Derived.KernelRfl
import Derived.Test.YtpoegfkajdbplaaDoorMd
import Derived.Test.YtpoegfkajdbplaaDoorMg

/- The table of types, printed by Tab.lean. -/
namespace Go.Proofs.YtpoegfkajdbplaaDoor
open Go.Dm

def tl : List TI := [
  noTI,
  ⟨.fn, 1, 8, [.nilf], []⟩,
  ⟨.int .i64, 1, 8, [.int .i64 0], []⟩,
  ⟨.int .i64, 1, 8, [.int .i64 0], []⟩,
  ⟨.bool, 1, 1, [.bool false], []⟩,
  ⟨.int .u8, 1, 1, [.int .u8 0], []⟩,
  ⟨.int .u8, 1, 1, [.int .u8 0], []⟩,
  ⟨.struct [(0, 2), (1, 3), (2, 4), (3, 6)], 4, 24, [.int .i64 0, .int .i64 0, .bool false, .int .u8 0], []⟩,
  ⟨.struct [(0, 2), (1, 3), (2, 4), (3, 6)], 4, 24, [.int .i64 0, .int .i64 0, .bool false, .int .u8 0], []⟩,
  ⟨.str, 1, 16, [.str []], []⟩,
  ⟨.str, 1, 16, [.str []], []⟩,
  ⟨.str, 1, 16, [.str []], []⟩,
  ⟨.int .u64, 1, 8, [.int .u64 0], []⟩,
  ⟨.struct [(0, 9), (1, 12)], 2, 24, [.str [], .int .u64 0], []⟩,
  ⟨.struct [(0, 9), (1, 12)], 2, 24, [.str [], .int .u64 0], []⟩,
  ⟨.ptr 89, 1, 8, [.nilp], []⟩,
  ⟨.ptr 92, 1, 8, [.nilp], []⟩,
  ⟨.ptr 100, 1, 8, [.nilp], []⟩,
  ⟨.struct [(0, 17)], 1, 8, [.nilp], []⟩,
  ⟨.struct [(0, 17)], 1, 8, [.nilp], []⟩,
  noTI,
  ⟨.int .i32, 1, 4, [.int .i32 0], []⟩,
  ⟨.slice 49, 1, 24, [.nils], []⟩,
  ⟨.struct [(0, 3), (1, 3), (2, 22)], 3, 40, [.int .i64 0, .int .i64 0, .nils], []⟩,
  ⟨.struct [(0, 3), (1, 3), (2, 22)], 3, 40, [.int .i64 0, .int .i64 0, .nils], []⟩,
  ⟨.slice 9, 1, 24, [.nils], []⟩,
  ⟨.fn, 1, 8, [.nilf], []⟩,
  ⟨.struct [(0, 3), (1, 3), (2, 25)], 3, 40, [.int .i64 0, .int .i64 0, .nils], []⟩,
  ⟨.struct [(0, 3), (1, 3), (2, 25)], 3, 40, [.int .i64 0, .int .i64 0, .nils], []⟩,
  ⟨.fn, 1, 8, [.nilf], []⟩,
  ⟨.int .i64, 1, 8, [.int .i64 0], []⟩,
  noTI,
  ⟨.fn, 1, 8, [.nilf], []⟩,
  ⟨.fn, 1, 8, [.nilf], []⟩,
  ⟨.fn, 1, 8, [.nilf], []⟩,
  ⟨.slice 5, 1, 24, [.nils], []⟩,
  ⟨.fn, 1, 8, [.nilf], []⟩,
  ⟨.fn, 1, 8, [.nilf], []⟩,
  ⟨.fn, 1, 8, [.nilf], []⟩,
  ⟨.fn, 1, 8, [.nilf], []⟩,
  ⟨.fn, 1, 8, [.nilf], []⟩,
  ⟨.fn, 1, 8, [.nilf], []⟩,
  ⟨.fn, 1, 8, [.nilf], []⟩,
  ⟨.slice 24, 1, 24, [.nils], []⟩,
  ⟨.slice 28, 1, 24, [.nils], []⟩,
  ⟨.fn, 1, 8, [.nilf], []⟩,
  ⟨.fn, 1, 8, [.nilf], []⟩,
  ⟨.fn, 1, 8, [.nilf], []⟩,
  ⟨.fn, 1, 8, [.nilf], []⟩,
  ⟨.slice 3, 1, 24, [.nils], []⟩,
  ⟨.fn, 1, 8, [.nilf], []⟩,
  ⟨.fn, 1, 8, [.nilf], []⟩,
  ⟨.fn, 1, 8, [.nilf], []⟩,
  ⟨.fn, 1, 8, [.nilf], []⟩,
  ⟨.fn, 1, 8, [.nilf], []⟩,
  ⟨.ptr 57, 1, 8, [.nilp], []⟩,
  ⟨.struct [(0, 55), (1, 35)], 2, 32, [.nilp, .nils], []⟩,
  ⟨.bld 55 35, 2, 32, [.nilp, .nils], []⟩,
  noTI,
  noTI,
  noTI,
  ⟨.fn, 1, 8, [.nilf], []⟩,
  ⟨.fn, 1, 8, [.nilf], []⟩,
  ⟨.slice 25, 1, 24, [.nils], []⟩,
  ⟨.fn, 1, 8, [.nilf], []⟩,
  ⟨.fn, 1, 8, [.nilf], []⟩,
  ⟨.fn, 1, 8, [.nilf], []⟩,
  ⟨.fn, 1, 8, [.nilf], []⟩,
  ⟨.fn, 1, 8, [.nilf], []⟩,
  ⟨.ptr 5, 1, 8, [.nilp], []⟩,
  ⟨.fn, 1, 8, [.nilf], []⟩,
  ⟨.fn, 1, 8, [.nilf], []⟩,
  ⟨.fn, 1, 8, [.nilf], []⟩,
  ⟨.uptr, 1, 8, [.nilp], []⟩,
  ⟨.fn, 1, 8, [.nilf], []⟩,
  ⟨.fn, 1, 8, [.nilf], []⟩,
  noTI,
  ⟨.fn, 1, 8, [.nilf], []⟩,
  ⟨.fn, 1, 8, [.nilf], []⟩,
  ⟨.fn, 1, 8, [.nilf], []⟩,
  ⟨.int .u64, 1, 8, [.int .u64 0], []⟩,
  ⟨.int .u32, 1, 4, [.int .u32 0], []⟩,
  noTI,
  ⟨.fn, 1, 8, [.nilf], []⟩,
  noTI,
  ⟨.struct [(0, 5), (1, 5)], 2, 2, [.int .u8 0, .int .u8 0], []⟩,
  ⟨.struct [(0, 5), (1, 5)], 2, 2, [.int .u8 0, .int .u8 0], [.i .u8, .i .u8]⟩,
  ⟨.array 16 86, 32, 32, [.int .u8 0, .int .u8 0, .int .u8 0, .int .u8 0, .int .u8 0, .int .u8 0, .int .u8 0, .int .u8 0, .int .u8 0, .int .u8 0, .int .u8 0, .int .u8 0, .int .u8 0, .int .u8 0, .int .u8 0, .int .u8 0, .int .u8 0, .int .u8 0, .int .u8 0, .int .u8 0, .int .u8 0, .int .u8 0, .int .u8 0, .int .u8 0, .int .u8 0, .int .u8 0, .int .u8 0, .int .u8 0, .int .u8 0, .int .u8 0, .int .u8 0, .int .u8 0], [.i .u8, .i .u8, .i .u8, .i .u8, .i .u8, .i .u8, .i .u8, .i .u8, .i .u8, .i .u8, .i .u8, .i .u8, .i .u8, .i .u8, .i .u8, .i .u8, .i .u8, .i .u8, .i .u8, .i .u8, .i .u8, .i .u8, .i .u8, .i .u8, .i .u8, .i .u8, .i .u8, .i .u8, .i .u8, .i .u8, .i .u8, .i .u8]⟩,
  ⟨.struct [(0, 17), (1, 17), (2, 17), (3, 9)], 4, 40, [.nilp, .nilp, .nilp, .str []], []⟩,
  ⟨.struct [(0, 17), (1, 17), (2, 17), (3, 9)], 4, 40, [.nilp, .nilp, .nilp, .str []], []⟩,
  ⟨.array 0 16, 0, 0, [], []⟩,
  ⟨.struct [(0, 90)], 0, 0, [], []⟩,
  ⟨.struct [(0, 90)], 0, 0, [], []⟩,
  ⟨.fn, 1, 8, [.nilf], []⟩,
  ⟨.int .u8, 1, 1, [.int .u8 0], []⟩,
  ⟨.int .u8, 1, 1, [.int .u8 0], []⟩,
  ⟨.fn, 1, 8, [.nilf], []⟩,
  ⟨.int .i32, 1, 4, [.int .i32 0], []⟩,
  ⟨.int .i32, 1, 4, [.int .i32 0], []⟩,
  ⟨.struct [(0, 12), (1, 12), (2, 81), (3, 94), (4, 5), (5, 5), (6, 95), (7, 96), (8, 69), (9, 97), (10, 98)], 11, 48, [.int .u64 0, .int .u64 0, .int .u32 0, .int .u8 0, .int .u8 0, .int .u8 0, .int .u8 0, .nilf, .nilp, .int .i32 0, .int .i32 0], []⟩,
  ⟨.struct [(0, 12), (1, 12), (2, 81), (3, 94), (4, 5), (5, 5), (6, 95), (7, 96), (8, 69), (9, 97), (10, 98)], 11, 48, [.int .u64 0, .int .u64 0, .int .u32 0, .int .u8 0, .int .u8 0, .int .u8 0, .int .u8 0, .nilf, .nilp, .int .i32 0, .int .i32 0], []⟩]

def tb : Tab := tabOf tl

theorem tok : TabOk Tryd.prog tb := tab_ok (by kernel_rfl)

theorem mixed : Tryd.prog.follows .mixedOrders = true := by kernel_rfl
end Go.Proofs.YtpoegfkajdbplaaDoor

/- The seat's functions by name, and compiled ahead; printed by seatgen.py. -/
set_option maxHeartbeats 4000000
namespace Go.Proofs.YtpoegfkajdbplaaDoor
open Go.Dm
set_option linter.unusedVariables false

abbrev f_main_main : Nat := 0
abbrev f_gosem_cut : Nat := 1
abbrev f_gosem_cut_init : Nat := 2
abbrev f_glosslaw16_EditShift : Nat := 3
abbrev f_glosslaw16_EditTells : Nat := 4
abbrev f_glosslaw16_EditMany : Nat := 5
abbrev f_glosskeep_Lines : Nat := 6
abbrev f_glosskeep_Edit_Edit : Nat := 7
abbrev f_edit_Do : Nat := 8
abbrev f_glossbook_Same_string : Nat := 9
abbrev f_glossbook_Within : Nat := 10
abbrev f_edit_Right : Nat := 11
abbrev f_glosslaw16_EditRuns : Nat := 12
abbrev f_glossref16_RightEdit : Nat := 13
abbrev f_edit_All : Nat := 14
abbrev f_edit_Back : Nat := 15
abbrev f_glossref16_Edited : Nat := 16
abbrev f_edit_Split : Nat := 17
abbrev f_edit_Join : Nat := 18
abbrev f_glosskeep_Text : Nat := 19
abbrev f_slices_Concat_string_string : Nat := 20
abbrev f_run_Lines : Nat := 21
abbrev f_slices_Clone_string_string : Nat := 22
abbrev f_strings_Split : Nat := 23
abbrev f_strings_TrimSuffix : Nat := 24
abbrev f_strings_Builder_WriteString : Nat := 25
abbrev f_strings_Builder_String : Nat := 26
abbrev f_slices_Grow_string_string : Nat := 27
abbrev f_run_Lines_1 : Nat := 28
abbrev f_strings_Contains : Nat := 29
abbrev f_slices_ContainsFunc_string_string : Nat := 30
abbrev f_strings_genSplit : Nat := 31
abbrev f_internal_stringslite_TrimSuffix : Nat := 32
abbrev f_strings_Builder_copyCheck : Nat := 33
abbrev f_strings_Index : Nat := 34
abbrev f_slices_IndexFunc_string_string : Nat := 35
abbrev f_strings_explode : Nat := 36
abbrev f_strings_Count : Nat := 37
abbrev f_internal_stringslite_HasSuffix : Nat := 38
abbrev f_internal_abi_NoEscape : Nat := 39
abbrev f_internal_stringslite_Index : Nat := 40
abbrev f_unicode_utf8_RuneCountInString : Nat := 41
abbrev f_unicode_utf8_DecodeRuneInString : Nat := 42
abbrev f_internal_bytealg_CountString : Nat := 43
abbrev f_internal_stringslite_IndexByte : Nat := 44
abbrev f_internal_bytealg_IndexString : Nat := 45
abbrev f_internal_bytealg_Cutover : Nat := 46
abbrev f_internal_bytealg_IndexRabinKarp_string : Nat := 47
abbrev f_unicode_utf8_decodeRuneInStringSlow : Nat := 48
abbrev f_internal_bytealg_IndexByteString : Nat := 49
abbrev f_internal_bytealg_hashStr_string : Nat := 50
abbrev f_runtime_boundsError_Error : Nat := 51
abbrev f_runtime_boundsError_RuntimeError : Nat := 52
abbrev f_runtime_errorString_Error : Nat := 53
abbrev f_runtime_errorString_RuntimeError : Nat := 54
abbrev f_runtime_plainError_Error : Nat := 55
abbrev f_runtime_plainError_RuntimeError : Nat := 56
abbrev f_runtime_errorAddressString_Error : Nat := 57
abbrev f_runtime_errorAddressString_RuntimeError : Nat := 58
abbrev f_runtime_TypeAssertionError_Error : Nat := 59
abbrev f_runtime_TypeAssertionError_RuntimeError : Nat := 60
abbrev f_runtime_PanicNilError_Error : Nat := 61
abbrev f_runtime_PanicNilError_RuntimeError : Nat := 62
abbrev f_internal_abi_Type_Align : Nat := 63
abbrev f_internal_runtime_maps_unhashableTypeError_Error : Nat := 64
abbrev f_internal_runtime_maps_unhashableTypeError_RuntimeError : Nat := 65
abbrev f_strings_Builder_Reset : Nat := 66
abbrev f_internal_abi_Kind_String : Nat := 67
abbrev f_var_s_door_gosem_cut_vars_holds_initialisers_alone_see_the_manifest_s_row_cutvarsword_look_11_test_files_too : Nat := 68
abbrev f_var_s_door_the_look_of_gosem_cut_vars_went_over_the_folder_that_the_caller_named_as_the_repository_s_root_look_11 : Nat := 69
abbrev f_var_s_door_unicode_utf8_acceptRanges_is_laid_by_its_own_initialiser_plain_data_look_11 : Nat := 70
abbrev f_var_s_door_unicode_utf8_first_is_laid_by_its_text_alone_pinned_1 : Nat := 71
abbrev f_gosem_cut_vars : Nat := 72
def pureL : List Nat := [6, 8, 9, 10, 11, 13, 15, 16, 17, 18, 19, 21, 22, 23, 24, 29, 31, 32, 34, 36, 37, 38, 40, 44]
def inNat (f : Nat) : List Nat → Bool
  | [] => false
  | x :: r => (match Nat.beq f x with | true => true | false => inNat f r)
instance : Pures := ⟨fun f => inNat f pureL⟩

def w_gosem_cut_init : Ent Tryd.prog tb (stlW tb) := ⟨2, [], _, by cbv, by kernel_rfl⟩
def w_glosslaw16_EditShift : Ent Tryd.prog tb (stlW tb) := ⟨3, [(4, .go 0 true (.go 1 true (.go 2 true (.go 3 true (.go 4 true (.go 5 true (.go 6 true (.go 7 true (.go 8 true (.go 9 true (.go 10 true (.go 11 true (.go 12 true (.go 13 true (.go 14 true (.go 15 true (.go 16 true (.go 17 true (.go 18 true (.go 19 true (.go 20 true (.go 21 true (.go 22 true (.go 23 true (.go 24 true (.go 25 true (.go 26 true (.go 27 true (.go 28 true (.go 29 true (.go 30 true (.go 31 true (.go 32 true (.go 33 true (.go 34 true (.go 35 true (.go 36 true (.go 37 true (.go 38 true (.go 39 true (.go 40 true (.go 41 true (.go 42 true (.go 43 true (.go 44 true (.go 45 true (.go 46 true (.done))))))))))))))))))))))))))))))))))))))))))))))))], _, by cbv, by kernel_rfl⟩
def w_glosslaw16_EditTells : Ent Tryd.prog tb (stlW tb) := ⟨4, [], _, by cbv, by kernel_rfl⟩
def w_glosslaw16_EditMany : Ent Tryd.prog tb (stlW tb) := ⟨5, [], _, by cbv, by kernel_rfl⟩
def w_glosskeep_Lines : Ent Tryd.prog tb (stlW tb) := ⟨6, [], _, by cbv, by kernel_rfl⟩
def w_glosskeep_Edit_Edit : Ent Tryd.prog tb (stlW tb) := ⟨7, [(6, .go 2 true (.go 3 true (.go 4 true (.go 5 true (.go 6 true (.go 7 true (.go 0 false (.sub (.alt 1 (.alt 8 (.done) (.stop)) (.alt 8 (.go 1 true (.done)) (.stop))) (.alt 9 (.go 10 true (.alt 11 (.done) (.stop))) (.stop))))))))))], _, by cbv, by kernel_rfl⟩
def w_edit_Do : Ent Tryd.prog tb (stlW tb) := ⟨8, [(3, .go 0 true (.go 1 true (.go 2 true (.go 3 true (.go 4 true (.go 5 true (.go 6 true (.go 7 true (.go 8 true (.go 9 true (.go 10 true (.go 11 true (.go 12 true (.alt 13 (.alt 14 (.go 15 true (.go 16 true (.done))) (.stop)) (.stop)))))))))))))))], _, by cbv, by kernel_rfl⟩
def w_glossbook_Same_string : Ent Tryd.prog tb (stlW tb) := ⟨9, [(6, .go 0 true (.go 1 true (.go 2 true (.go 3 true (.go 4 true (.go 5 true (.go 6 true (.go 7 true (.go 8 true (.done))))))))))], _, by cbv, by kernel_rfl⟩
def w_glossbook_Within : Ent Tryd.prog tb (stlW tb) := ⟨10, [], _, by cbv, by kernel_rfl⟩
def w_edit_Right : Ent Tryd.prog tb (stlW tb) := ⟨11, [], _, by cbv, by kernel_rfl⟩
def w_glosslaw16_EditRuns : Ent Tryd.prog tb (stlW tb) := ⟨12, [], _, by cbv, by kernel_rfl⟩
def w_glossref16_RightEdit : Ent Tryd.prog tb (stlW tb) := ⟨13, [], _, by cbv, by kernel_rfl⟩
def w_edit_All : Ent Tryd.prog tb (stlW tb) := ⟨14, [], _, by cbv, by kernel_rfl⟩
def w_edit_Back : Ent Tryd.prog tb (stlW tb) := ⟨15, [(3, .go 0 true (.go 1 true (.go 2 true (.go 3 true (.go 4 true (.go 5 true (.go 6 true (.go 7 true (.go 8 true (.go 9 true (.go 10 true (.go 11 true (.go 12 true (.go 13 true (.go 14 true (.alt 15 (.alt 16 (.done) (.stop)) (.stop)))))))))))))))))], _, by cbv, by kernel_rfl⟩
def w_glossref16_Edited : Ent Tryd.prog tb (stlW tb) := ⟨16, [(1, .goc 1 (.goc 2 (.goc 3 (.goc 4 (.goc 6 (.goc 7 (.goc 9 (.goc 10 (.goc 11 (.goc 12 (.goc 13 (.goc 14 (.goc 15 (.alt 0 (.alt 5 (.alt 8 (.alt 16 (.go 17 true (.done)) (.stop)) (.stop)) (.stop)) (.stop)))))))))))))))], _, by cbv, by kernel_rfl⟩
def w_edit_Split : Ent Tryd.prog tb (stlW tb) := ⟨17, [], _, by cbv, by kernel_rfl⟩
def w_edit_Join : Ent Tryd.prog tb (stlW tb) := ⟨18, [], _, by cbv, by kernel_rfl⟩
def w_glosskeep_Text : Ent Tryd.prog tb (stlW tb) := ⟨19, [], _, by cbv, by kernel_rfl⟩
def w_slices_Concat_string_string : Ent Tryd.prog tb (stlW tb) := ⟨20, [], _, by cbv, by kernel_rfl⟩
def w_run_Lines : Ent Tryd.prog tb (stlW tb) := ⟨21, [], _, by cbv, by kernel_rfl⟩
def w_slices_Clone_string_string : Ent Tryd.prog tb (stlW tb) := ⟨22, [], _, by cbv, by kernel_rfl⟩
def w_strings_Split : Ent Tryd.prog tb (stlW tb) := ⟨23, [], _, by cbv, by kernel_rfl⟩
def w_strings_TrimSuffix : Ent Tryd.prog tb (stlW tb) := ⟨24, [], _, by cbv, by kernel_rfl⟩
def w_strings_Builder_WriteString : Ent Tryd.prog tb (stlW tb) := ⟨25, [], _, by cbv, by kernel_rfl⟩
def w_strings_Builder_String : Ent Tryd.prog tb (stlW tb) := ⟨26, [(1, .go 0 false (.go 1 false (.go 5 false (.go 6 false (.sub (.alt 2 (.alt 3 (.alt 4 (.alt 7 (.go 8 true (.go 9 true (.done))) (.stop)) (.alt 7 (.alt 4 (.go 8 true (.go 9 true (.done))) (.alt 8 (.alt 4 (.go 9 true (.done)) (.alt 9 (.alt 4 (.done) (.stop)) (.stop))) (.stop))) (.stop))) (.alt 7 (.go 3 true (.alt 4 (.go 8 true (.go 9 true (.done))) (.alt 8 (.alt 4 (.go 9 true (.done)) (.alt 9 (.alt 4 (.done) (.stop)) (.stop))) (.stop)))) (.stop))) (.alt 7 (.alt 2 (.go 3 true (.alt 4 (.go 8 true (.go 9 true (.done))) (.alt 8 (.alt 4 (.go 9 true (.done)) (.alt 9 (.alt 4 (.done) (.stop)) (.stop))) (.stop)))) (.alt 8 (.alt 2 (.go 3 true (.alt 4 (.go 9 true (.done)) (.alt 9 (.alt 4 (.done) (.stop)) (.stop)))) (.alt 9 (.alt 2 (.go 3 true (.alt 4 (.done) (.stop))) (.stop)) (.stop))) (.stop))) (.stop))) (.alt 10 (.go 11 true (.done)) (.stop)))))))], _, by cbv, by kernel_rfl⟩
def w_slices_Grow_string_string : Ent Tryd.prog tb (stlW tb) := ⟨27, [], _, by cbv, by kernel_rfl⟩
def w_run_Lines_1 : Ent Tryd.prog tb (stlW tb) := ⟨28, [], _, by cbv, by kernel_rfl⟩
def w_strings_Contains : Ent Tryd.prog tb (stlW tb) := ⟨29, [], _, by cbv, by kernel_rfl⟩
def w_slices_ContainsFunc_string_string : Ent Tryd.prog tb (stlW tb) := ⟨30, [], _, by cbv, by kernel_rfl⟩
def w_strings_genSplit : Ent Tryd.prog tb (stlW tb) := ⟨31, [], _, by cbv, by kernel_rfl⟩
def w_internal_stringslite_TrimSuffix : Ent Tryd.prog tb (stlW tb) := ⟨32, [], _, by cbv, by kernel_rfl⟩
def w_strings_Builder_copyCheck : Ent Tryd.prog tb (stlW tb) := ⟨33, [], _, by cbv, by kernel_rfl⟩
def w_strings_Index : Ent Tryd.prog tb (stlW tb) := ⟨34, [], _, by cbv, by kernel_rfl⟩
def w_slices_IndexFunc_string_string : Ent Tryd.prog tb (stlW tb) := ⟨35, [], _, by cbv, by kernel_rfl⟩
def w_strings_explode : Ent Tryd.prog tb (stlW tb) := ⟨36, [], _, by cbv, by kernel_rfl⟩
def w_strings_Count : Ent Tryd.prog tb (stlW tb) := ⟨37, [], _, by cbv, by kernel_rfl⟩
def w_internal_stringslite_HasSuffix : Ent Tryd.prog tb (stlW tb) := ⟨38, [], _, by cbv, by kernel_rfl⟩
def w_internal_stringslite_Index : Ent Tryd.prog tb (stlW tb) := ⟨40, [], _, by cbv, by kernel_rfl⟩
def w_unicode_utf8_RuneCountInString : Ent Tryd.prog tb (stlW tb) := ⟨41, [], _, by cbv, by kernel_rfl⟩
def w_unicode_utf8_DecodeRuneInString : Ent Tryd.prog tb (stlW tb) := ⟨42, [], _, by cbv, by kernel_rfl⟩
def w_internal_stringslite_IndexByte : Ent Tryd.prog tb (stlW tb) := ⟨44, [], _, by cbv, by kernel_rfl⟩
def w_internal_bytealg_Cutover : Ent Tryd.prog tb (stlW tb) := ⟨46, [], _, by cbv, by kernel_rfl⟩
def w_internal_bytealg_IndexRabinKarp_string : Ent Tryd.prog tb (stlW tb) := ⟨47, [], _, by cbv, by kernel_rfl⟩
def w_unicode_utf8_decodeRuneInStringSlow : Ent Tryd.prog tb (stlW tb) := ⟨48, [], _, by cbv, by kernel_rfl⟩
def w_internal_bytealg_hashStr_string : Ent Tryd.prog tb (stlW tb) := ⟨50, [], _, by cbv, by kernel_rfl⟩
def w_gosem_cut_vars : Ent Tryd.prog tb (stlW tb) := ⟨72, [], _, by cbv, by kernel_rfl⟩
end Go.Proofs.YtpoegfkajdbplaaDoor

/- The seat's types among the named ones; printed by seatgen.py. -/
namespace Go.Proofs.YtpoegfkajdbplaaDoor
open Go.Dm Go.Dm.Sx
set_option linter.unusedVariables false
def tyL : List (Option Ty) := [none, none, some (.int .i64), some (.int .i64), some (.bool), some (.int .u8), some (.int .u8), none, none, some (.str), some (.str), some (.str), some (.int .u64), none, none, none, none, none, none, none, none, some (.int .i32), some (.list (.list (.int .i64))), none, some (.base 1), some (.list (.str)), none, none, some (.base 0), none, some (.int .i64), none, none, none, none, some (.list (.int .u8)), none, none, none, none, none, none, none, some (.list (.base 1)), some (.list (.base 0)), none, none, none, none, some (.list (.int .i64)), none, none, none, none, none, none, none, none, none, none, none, none, none, some (.list (.list (.str))), none, none, none, none, none, some (.opt (.int .u8)), none, none, none, none, none, none, none, none, none, none, some (.int .u64), some (.int .u32), none, none, none, none, none, none, none, none, none, none, none, none, some (.int .u8), some (.int .u8), none, some (.int .i32), some (.int .i32), none, none]
def tyO (t : Nat) : Option Ty := match nth tyL t with | some x => x | none => none

end Go.Proofs.YtpoegfkajdbplaaDoor
