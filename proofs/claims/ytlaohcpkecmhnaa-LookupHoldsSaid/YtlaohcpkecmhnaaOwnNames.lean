/-
The functions of this program by name. Laid by wip/tools/names.py.
-/
import Derived.Test.YtlaohcpkecmhnaaOwnFn
import Derived.Test.YtlaohcpkecmhnaaProg

set_option linter.all false

namespace Go.Own
open Go

noncomputable abbrev PP : Program := Go.Proofs.Try.prog

theorem PP_mixed : PP.follows .mixedOrders = true := by kernel_rfl

abbrev n_main_main : Nat := 0
noncomputable abbrev f_main_main : Func := Go.Proofs.Try.f0
theorem at_main_main : PP.funcs[n_main_main]? = some f_main_main := Go.Proofs.Try.func0
abbrev n_gosem_cut : Nat := 1
noncomputable abbrev f_gosem_cut : Func := Go.Proofs.Try.f1
theorem at_gosem_cut : PP.funcs[n_gosem_cut]? = some f_gosem_cut := Go.Proofs.Try.func1
abbrev n_gosem_cut_init : Nat := 2
noncomputable abbrev f_gosem_cut_init : Func := Go.Proofs.Try.f2
theorem at_gosem_cut_init : PP.funcs[n_gosem_cut_init]? = some f_gosem_cut_init := Go.Proofs.Try.func2
abbrev n_sigillaw17_LookupHolds : Nat := 3
noncomputable abbrev f_sigillaw17_LookupHolds : Func := Go.Proofs.Try.f3
theorem at_sigillaw17_LookupHolds : PP.funcs[n_sigillaw17_LookupHolds]? = some f_sigillaw17_LookupHolds := Go.Proofs.Try.func3
abbrev n_sigillaw17_alive : Nat := 4
noncomputable abbrev f_sigillaw17_alive : Func := Go.Proofs.Try.f4
theorem at_sigillaw17_alive : PP.funcs[n_sigillaw17_alive]? = some f_sigillaw17_alive := Go.Proofs.Try.func4
abbrev n_lookup_Permute : Nat := 5
noncomputable abbrev f_lookup_Permute : Func := Go.Proofs.Try.f5
theorem at_lookup_Permute : PP.funcs[n_lookup_Permute]? = some f_lookup_Permute := Go.Proofs.Try.func5
abbrev n_sigilref00_CopyElems : Nat := 6
noncomputable abbrev f_sigilref00_CopyElems : Func := Go.Proofs.Try.f6
theorem at_sigilref00_CopyElems : PP.funcs[n_sigilref00_CopyElems]? = some f_sigilref00_CopyElems := Go.Proofs.Try.func6
abbrev n_tape_Purse : Nat := 7
noncomputable abbrev f_tape_Purse : Func := Go.Proofs.Try.f7
theorem at_tape_Purse : PP.funcs[n_tape_Purse]? = some f_tape_Purse := Go.Proofs.Try.func7
abbrev n_lookup_Product : Nat := 8
noncomputable abbrev f_lookup_Product : Func := Go.Proofs.Try.f8
theorem at_lookup_Product : PP.funcs[n_lookup_Product]? = some f_lookup_Product := Go.Proofs.Try.func8
abbrev n_domain_Points : Nat := 9
noncomputable abbrev f_domain_Points : Func := Go.Proofs.Try.f9
theorem at_domain_Points : PP.funcs[n_domain_Points]? = some f_domain_Points := Go.Proofs.Try.func9
abbrev n_permute_Place : Nat := 10
noncomputable abbrev f_permute_Place : Func := Go.Proofs.Try.f10
theorem at_permute_Place : PP.funcs[n_permute_Place]? = some f_permute_Place := Go.Proofs.Try.func10
abbrev n_sigillaw17_at : Nat := 11
noncomputable abbrev f_sigillaw17_at : Func := Go.Proofs.Try.f11
theorem at_sigillaw17_at : PP.funcs[n_sigillaw17_at]? = some f_sigillaw17_at := Go.Proofs.Try.func11
abbrev n_lookup_Checks : Nat := 12
noncomputable abbrev f_lookup_Checks : Func := Go.Proofs.Try.f12
theorem at_lookup_Checks : PP.funcs[n_lookup_Checks]? = some f_lookup_Checks := Go.Proofs.Try.func12
abbrev n_sigilref00_SameElems : Nat := 13
noncomputable abbrev f_sigilref00_SameElems : Func := Go.Proofs.Try.f13
theorem at_sigilref00_SameElems : PP.funcs[n_sigilref00_SameElems]? = some f_sigilref00_SameElems := Go.Proofs.Try.func13
abbrev n_lookup_Compress : Nat := 14
noncomputable abbrev f_lookup_Compress : Func := Go.Proofs.Try.f14
theorem at_lookup_Compress : PP.funcs[n_lookup_Compress]? = some f_lookup_Compress := Go.Proofs.Try.func14
abbrev n_field_Modulus : Nat := 15
noncomputable abbrev f_field_Modulus : Func := Go.Proofs.Try.f15
theorem at_field_Modulus : PP.funcs[n_field_Modulus]? = some f_field_Modulus := Go.Proofs.Try.func15
abbrev n_lookup_rising : Nat := 16
noncomputable abbrev f_lookup_rising : Func := Go.Proofs.Try.f16
theorem at_lookup_rising : PP.funcs[n_lookup_rising]? = some f_lookup_rising := Go.Proofs.Try.func16
abbrev n_slices_Clone : Nat := 17
noncomputable abbrev f_slices_Clone : Func := Go.Proofs.Try.f17
theorem at_slices_Clone : PP.funcs[n_slices_Clone]? = some f_slices_Clone := Go.Proofs.Try.func17
abbrev n_slices_BinarySearchFunc : Nat := 18
noncomputable abbrev f_slices_BinarySearchFunc : Func := Go.Proofs.Try.f18
theorem at_slices_BinarySearchFunc : PP.funcs[n_slices_BinarySearchFunc]? = some f_slices_BinarySearchFunc := Go.Proofs.Try.func18
abbrev n_lookup_compare : Nat := 19
noncomputable abbrev f_lookup_compare : Func := Go.Proofs.Try.f19
theorem at_lookup_compare : PP.funcs[n_lookup_compare]? = some f_lookup_compare := Go.Proofs.Try.func19
abbrev n_slices_Delete : Nat := 20
noncomputable abbrev f_slices_Delete : Func := Go.Proofs.Try.f20
theorem at_slices_Delete : PP.funcs[n_slices_Delete]? = some f_slices_Delete := Go.Proofs.Try.func20
abbrev n_field_Inv : Nat := 21
noncomputable abbrev f_field_Inv : Func := Go.Proofs.Try.f21
theorem at_field_Inv : PP.funcs[n_field_Inv]? = some f_field_Inv := Go.Proofs.Try.func21
abbrev n_lookup_pair_of : Nat := 22
noncomputable abbrev f_lookup_pair_of : Func := Go.Proofs.Try.f22
theorem at_lookup_pair_of : PP.funcs[n_lookup_pair_of]? = some f_lookup_pair_of := Go.Proofs.Try.func22
abbrev n_field_Mul : Nat := 23
noncomputable abbrev f_field_Mul : Func := Go.Proofs.Try.f23
theorem at_field_Mul : PP.funcs[n_field_Mul]? = some f_field_Mul := Go.Proofs.Try.func23
abbrev n_tape_Coins_Next : Nat := 24
noncomputable abbrev f_tape_Coins_Next : Func := Go.Proofs.Try.f24
theorem at_tape_Coins_Next : PP.funcs[n_tape_Coins_Next]? = some f_tape_Coins_Next := Go.Proofs.Try.func24
abbrev n_field_Add : Nat := 25
noncomputable abbrev f_field_Add : Func := Go.Proofs.Try.f25
theorem at_field_Add : PP.funcs[n_field_Add]? = some f_field_Add := Go.Proofs.Try.func25
abbrev n_domain_check : Nat := 26
noncomputable abbrev f_domain_check : Func := Go.Proofs.Try.f26
theorem at_domain_check : PP.funcs[n_domain_check]? = some f_domain_check := Go.Proofs.Try.func26
abbrev n_field_Root : Nat := 27
noncomputable abbrev f_field_Root : Func := Go.Proofs.Try.f27
theorem at_field_Root : PP.funcs[n_field_Root]? = some f_field_Root := Go.Proofs.Try.func27
abbrev n_domain_powers : Nat := 28
noncomputable abbrev f_domain_powers : Func := Go.Proofs.Try.f28
theorem at_domain_powers : PP.funcs[n_domain_powers]? = some f_domain_powers := Go.Proofs.Try.func28
abbrev n_permute_size : Nat := 29
noncomputable abbrev f_permute_size : Func := Go.Proofs.Try.f29
theorem at_permute_size : PP.funcs[n_permute_size]? = some f_permute_size := Go.Proofs.Try.func29
abbrev n_domain_Lagrange : Nat := 30
noncomputable abbrev f_domain_Lagrange : Func := Go.Proofs.Try.f30
theorem at_domain_Lagrange : PP.funcs[n_domain_Lagrange]? = some f_domain_Lagrange := Go.Proofs.Try.func30
abbrev n_field_Int : Nat := 31
noncomputable abbrev f_field_Int : Func := Go.Proofs.Try.f31
theorem at_field_Int : PP.funcs[n_field_Int]? = some f_field_Int := Go.Proofs.Try.func31
abbrev n_lookup_Checks_D1 : Nat := 32
noncomputable abbrev f_lookup_Checks_D1 : Func := Go.Proofs.Try.f32
theorem at_lookup_Checks_D1 : PP.funcs[n_lookup_Checks_D1]? = some f_lookup_Checks_D1 := Go.Proofs.Try.func32
abbrev n_lookup_Checks_D2 : Nat := 33
noncomputable abbrev f_lookup_Checks_D2 : Func := Go.Proofs.Try.f33
theorem at_lookup_Checks_D2 : PP.funcs[n_lookup_Checks_D2]? = some f_lookup_Checks_D2 := Go.Proofs.Try.func33
abbrev n_field_Sub : Nat := 34
noncomputable abbrev f_field_Sub : Func := Go.Proofs.Try.f34
theorem at_field_Sub : PP.funcs[n_field_Sub]? = some f_field_Sub := Go.Proofs.Try.func34
abbrev n_field_of : Nat := 35
noncomputable abbrev f_field_of : Func := Go.Proofs.Try.f35
theorem at_field_of : PP.funcs[n_field_of]? = some f_field_of := Go.Proofs.Try.func35
abbrev n_slices_SortFunc : Nat := 36
noncomputable abbrev f_slices_SortFunc : Func := Go.Proofs.Try.f36
theorem at_slices_SortFunc : PP.funcs[n_slices_SortFunc]? = some f_slices_SortFunc := Go.Proofs.Try.func36
abbrev n_word_Less : Nat := 37
noncomputable abbrev f_word_Less : Func := Go.Proofs.Try.f37
theorem at_word_Less : PP.funcs[n_word_Less]? = some f_word_Less := Go.Proofs.Try.func37
abbrev n_field_numbers_reduce : Nat := 38
noncomputable abbrev f_field_numbers_reduce : Func := Go.Proofs.Try.f38
theorem at_field_numbers_reduce : PP.funcs[n_field_numbers_reduce]? = some f_field_numbers_reduce := Go.Proofs.Try.func38
abbrev n_word_Sub : Nat := 39
noncomputable abbrev f_word_Sub : Func := Go.Proofs.Try.f39
theorem at_word_Sub : PP.funcs[n_word_Sub]? = some f_word_Sub := Go.Proofs.Try.func39
abbrev n_field_Exp : Nat := 40
noncomputable abbrev f_field_Exp : Func := Go.Proofs.Try.f40
theorem at_field_Exp : PP.funcs[n_field_Exp]? = some f_field_Exp := Go.Proofs.Try.func40
abbrev n_field_numbers_mul : Nat := 41
noncomputable abbrev f_field_numbers_mul : Func := Go.Proofs.Try.f41
theorem at_field_numbers_mul : PP.funcs[n_field_numbers_mul]? = some f_field_numbers_mul := Go.Proofs.Try.func41
abbrev n_field_numbers_add : Nat := 42
noncomputable abbrev f_field_numbers_add : Func := Go.Proofs.Try.f42
theorem at_field_numbers_add : PP.funcs[n_field_numbers_add]? = some f_field_numbers_add := Go.Proofs.Try.func42
abbrev n_field_halves : Nat := 43
noncomputable abbrev f_field_halves : Func := Go.Proofs.Try.f43
theorem at_field_halves : PP.funcs[n_field_halves]? = some f_field_halves := Go.Proofs.Try.func43
abbrev n_domain_Vanish : Nat := 44
noncomputable abbrev f_domain_Vanish : Func := Go.Proofs.Try.f44
theorem at_domain_Vanish : PP.funcs[n_domain_Vanish]? = some f_domain_Vanish := Go.Proofs.Try.func44
abbrev n_field_Neg : Nat := 45
noncomputable abbrev f_field_Neg : Func := Go.Proofs.Try.f45
theorem at_field_Neg : PP.funcs[n_field_Neg]? = some f_field_Neg := Go.Proofs.Try.func45
abbrev n_slices_pdqsortCmpFunc : Nat := 46
noncomputable abbrev f_slices_pdqsortCmpFunc : Func := Go.Proofs.Try.f46
theorem at_slices_pdqsortCmpFunc : PP.funcs[n_slices_pdqsortCmpFunc]? = some f_slices_pdqsortCmpFunc := Go.Proofs.Try.func46
abbrev n_bits_Len : Nat := 47
noncomputable abbrev f_bits_Len : Func := Go.Proofs.Try.f47
theorem at_bits_Len : PP.funcs[n_bits_Len]? = some f_bits_Len := Go.Proofs.Try.func47
abbrev n_bits_Div64 : Nat := 48
noncomputable abbrev f_bits_Div64 : Func := Go.Proofs.Try.f48
theorem at_bits_Div64 : PP.funcs[n_bits_Div64]? = some f_bits_Div64 := Go.Proofs.Try.func48
abbrev n_bits_Sub64 : Nat := 49
noncomputable abbrev f_bits_Sub64 : Func := Go.Proofs.Try.f49
theorem at_bits_Sub64 : PP.funcs[n_bits_Sub64]? = some f_bits_Sub64 := Go.Proofs.Try.func49
abbrev n_field_half : Nat := 50
noncomputable abbrev f_field_half : Func := Go.Proofs.Try.f50
theorem at_field_half : PP.funcs[n_field_half]? = some f_field_half := Go.Proofs.Try.func50
abbrev n_field_numbers_redc : Nat := 51
noncomputable abbrev f_field_numbers_redc : Func := Go.Proofs.Try.f51
theorem at_field_numbers_redc : PP.funcs[n_field_numbers_redc]? = some f_field_numbers_redc := Go.Proofs.Try.func51
abbrev n_word_Add : Nat := 52
noncomputable abbrev f_word_Add : Func := Go.Proofs.Try.f52
theorem at_word_Add : PP.funcs[n_word_Add]? = some f_word_Add := Go.Proofs.Try.func52
abbrev n_field_numbers_neg0 : Nat := 53
noncomputable abbrev f_field_numbers_neg0 : Func := Go.Proofs.Try.f53
theorem at_field_numbers_neg0 : PP.funcs[n_field_numbers_neg0]? = some f_field_numbers_neg0 := Go.Proofs.Try.func53
abbrev n_slices_insertionSortCmpFunc : Nat := 54
noncomputable abbrev f_slices_insertionSortCmpFunc : Func := Go.Proofs.Try.f54
theorem at_slices_insertionSortCmpFunc : PP.funcs[n_slices_insertionSortCmpFunc]? = some f_slices_insertionSortCmpFunc := Go.Proofs.Try.func54
abbrev n_slices_heapSortCmpFunc : Nat := 55
noncomputable abbrev f_slices_heapSortCmpFunc : Func := Go.Proofs.Try.f55
theorem at_slices_heapSortCmpFunc : PP.funcs[n_slices_heapSortCmpFunc]? = some f_slices_heapSortCmpFunc := Go.Proofs.Try.func55
abbrev n_slices_breakPatternsCmpFunc : Nat := 56
noncomputable abbrev f_slices_breakPatternsCmpFunc : Func := Go.Proofs.Try.f56
theorem at_slices_breakPatternsCmpFunc : PP.funcs[n_slices_breakPatternsCmpFunc]? = some f_slices_breakPatternsCmpFunc := Go.Proofs.Try.func56
abbrev n_slices_choosePivotCmpFunc : Nat := 57
noncomputable abbrev f_slices_choosePivotCmpFunc : Func := Go.Proofs.Try.f57
theorem at_slices_choosePivotCmpFunc : PP.funcs[n_slices_choosePivotCmpFunc]? = some f_slices_choosePivotCmpFunc := Go.Proofs.Try.func57
abbrev n_slices_reverseRangeCmpFunc : Nat := 58
noncomputable abbrev f_slices_reverseRangeCmpFunc : Func := Go.Proofs.Try.f58
theorem at_slices_reverseRangeCmpFunc : PP.funcs[n_slices_reverseRangeCmpFunc]? = some f_slices_reverseRangeCmpFunc := Go.Proofs.Try.func58
abbrev n_slices_partialInsertionSortCmpFunc : Nat := 59
noncomputable abbrev f_slices_partialInsertionSortCmpFunc : Func := Go.Proofs.Try.f59
theorem at_slices_partialInsertionSortCmpFunc : PP.funcs[n_slices_partialInsertionSortCmpFunc]? = some f_slices_partialInsertionSortCmpFunc := Go.Proofs.Try.func59
abbrev n_slices_partitionEqualCmpFunc : Nat := 60
noncomputable abbrev f_slices_partitionEqualCmpFunc : Func := Go.Proofs.Try.f60
theorem at_slices_partitionEqualCmpFunc : PP.funcs[n_slices_partitionEqualCmpFunc]? = some f_slices_partitionEqualCmpFunc := Go.Proofs.Try.func60
abbrev n_slices_partitionCmpFunc : Nat := 61
noncomputable abbrev f_slices_partitionCmpFunc : Func := Go.Proofs.Try.f61
theorem at_slices_partitionCmpFunc : PP.funcs[n_slices_partitionCmpFunc]? = some f_slices_partitionCmpFunc := Go.Proofs.Try.func61
abbrev n_bits_Len32 : Nat := 62
noncomputable abbrev f_bits_Len32 : Func := Go.Proofs.Try.f62
theorem at_bits_Len32 : PP.funcs[n_bits_Len32]? = some f_bits_Len32 := Go.Proofs.Try.func62
abbrev n_bits_Len64 : Nat := 63
noncomputable abbrev f_bits_Len64 : Func := Go.Proofs.Try.f63
theorem at_bits_Len64 : PP.funcs[n_bits_Len64]? = some f_bits_Len64 := Go.Proofs.Try.func63
abbrev n_bits_LeadingZeros64 : Nat := 64
noncomputable abbrev f_bits_LeadingZeros64 : Func := Go.Proofs.Try.f64
theorem at_bits_LeadingZeros64 : PP.funcs[n_bits_LeadingZeros64]? = some f_bits_LeadingZeros64 := Go.Proofs.Try.func64
abbrev n_field_accumulate : Nat := 65
noncomputable abbrev f_field_accumulate : Func := Go.Proofs.Try.f65
theorem at_field_accumulate : PP.funcs[n_field_accumulate]? = some f_field_accumulate := Go.Proofs.Try.func65
abbrev n_bits_Add64 : Nat := 66
noncomputable abbrev f_bits_Add64 : Func := Go.Proofs.Try.f66
theorem at_bits_Add64 : PP.funcs[n_bits_Add64]? = some f_bits_Add64 := Go.Proofs.Try.func66
abbrev n_slices_siftDownCmpFunc : Nat := 67
noncomputable abbrev f_slices_siftDownCmpFunc : Func := Go.Proofs.Try.f67
theorem at_slices_siftDownCmpFunc : PP.funcs[n_slices_siftDownCmpFunc]? = some f_slices_siftDownCmpFunc := Go.Proofs.Try.func67
abbrev n_slices_nextPowerOfTwo : Nat := 68
noncomputable abbrev f_slices_nextPowerOfTwo : Func := Go.Proofs.Try.f68
theorem at_slices_nextPowerOfTwo : PP.funcs[n_slices_nextPowerOfTwo]? = some f_slices_nextPowerOfTwo := Go.Proofs.Try.func68
abbrev n_slices_xorshift_Next : Nat := 69
noncomputable abbrev f_slices_xorshift_Next : Func := Go.Proofs.Try.f69
theorem at_slices_xorshift_Next : PP.funcs[n_slices_xorshift_Next]? = some f_slices_xorshift_Next := Go.Proofs.Try.func69
abbrev n_slices_medianAdjacentCmpFunc : Nat := 70
noncomputable abbrev f_slices_medianAdjacentCmpFunc : Func := Go.Proofs.Try.f70
theorem at_slices_medianAdjacentCmpFunc : PP.funcs[n_slices_medianAdjacentCmpFunc]? = some f_slices_medianAdjacentCmpFunc := Go.Proofs.Try.func70
abbrev n_slices_medianCmpFunc : Nat := 71
noncomputable abbrev f_slices_medianCmpFunc : Func := Go.Proofs.Try.f71
theorem at_slices_medianCmpFunc : PP.funcs[n_slices_medianCmpFunc]? = some f_slices_medianCmpFunc := Go.Proofs.Try.func71
abbrev n_bits_Mul64 : Nat := 72
noncomputable abbrev f_bits_Mul64 : Func := Go.Proofs.Try.f72
theorem at_bits_Mul64 : PP.funcs[n_bits_Mul64]? = some f_bits_Mul64 := Go.Proofs.Try.func72
abbrev n_slices_order2CmpFunc : Nat := 73
noncomputable abbrev f_slices_order2CmpFunc : Func := Go.Proofs.Try.f73
theorem at_slices_order2CmpFunc : PP.funcs[n_slices_order2CmpFunc]? = some f_slices_order2CmpFunc := Go.Proofs.Try.func73
abbrev n_runtime_boundsError_Error : Nat := 74
noncomputable abbrev f_runtime_boundsError_Error : Func := Go.Proofs.Try.f74
theorem at_runtime_boundsError_Error : PP.funcs[n_runtime_boundsError_Error]? = some f_runtime_boundsError_Error := Go.Proofs.Try.func74
abbrev n_runtime_boundsError_RuntimeError : Nat := 75
noncomputable abbrev f_runtime_boundsError_RuntimeError : Func := Go.Proofs.Try.f75
theorem at_runtime_boundsError_RuntimeError : PP.funcs[n_runtime_boundsError_RuntimeError]? = some f_runtime_boundsError_RuntimeError := Go.Proofs.Try.func75
abbrev n_runtime_errorString_Error : Nat := 76
noncomputable abbrev f_runtime_errorString_Error : Func := Go.Proofs.Try.f76
theorem at_runtime_errorString_Error : PP.funcs[n_runtime_errorString_Error]? = some f_runtime_errorString_Error := Go.Proofs.Try.func76
abbrev n_runtime_errorString_RuntimeError : Nat := 77
noncomputable abbrev f_runtime_errorString_RuntimeError : Func := Go.Proofs.Try.f77
theorem at_runtime_errorString_RuntimeError : PP.funcs[n_runtime_errorString_RuntimeError]? = some f_runtime_errorString_RuntimeError := Go.Proofs.Try.func77
abbrev n_runtime_plainError_Error : Nat := 78
noncomputable abbrev f_runtime_plainError_Error : Func := Go.Proofs.Try.f78
theorem at_runtime_plainError_Error : PP.funcs[n_runtime_plainError_Error]? = some f_runtime_plainError_Error := Go.Proofs.Try.func78
abbrev n_runtime_plainError_RuntimeError : Nat := 79
noncomputable abbrev f_runtime_plainError_RuntimeError : Func := Go.Proofs.Try.f79
theorem at_runtime_plainError_RuntimeError : PP.funcs[n_runtime_plainError_RuntimeError]? = some f_runtime_plainError_RuntimeError := Go.Proofs.Try.func79
abbrev n_runtime_errorAddressString_Error : Nat := 80
noncomputable abbrev f_runtime_errorAddressString_Error : Func := Go.Proofs.Try.f80
theorem at_runtime_errorAddressString_Error : PP.funcs[n_runtime_errorAddressString_Error]? = some f_runtime_errorAddressString_Error := Go.Proofs.Try.func80
abbrev n_runtime_errorAddressString_RuntimeError : Nat := 81
noncomputable abbrev f_runtime_errorAddressString_RuntimeError : Func := Go.Proofs.Try.f81
theorem at_runtime_errorAddressString_RuntimeError : PP.funcs[n_runtime_errorAddressString_RuntimeError]? = some f_runtime_errorAddressString_RuntimeError := Go.Proofs.Try.func81
abbrev n_runtime_TypeAssertionError_Error : Nat := 82
noncomputable abbrev f_runtime_TypeAssertionError_Error : Func := Go.Proofs.Try.f82
theorem at_runtime_TypeAssertionError_Error : PP.funcs[n_runtime_TypeAssertionError_Error]? = some f_runtime_TypeAssertionError_Error := Go.Proofs.Try.func82
abbrev n_runtime_TypeAssertionError_RuntimeError : Nat := 83
noncomputable abbrev f_runtime_TypeAssertionError_RuntimeError : Func := Go.Proofs.Try.f83
theorem at_runtime_TypeAssertionError_RuntimeError : PP.funcs[n_runtime_TypeAssertionError_RuntimeError]? = some f_runtime_TypeAssertionError_RuntimeError := Go.Proofs.Try.func83
abbrev n_runtime_PanicNilError_Error : Nat := 84
noncomputable abbrev f_runtime_PanicNilError_Error : Func := Go.Proofs.Try.f84
theorem at_runtime_PanicNilError_Error : PP.funcs[n_runtime_PanicNilError_Error]? = some f_runtime_PanicNilError_Error := Go.Proofs.Try.func84
abbrev n_runtime_PanicNilError_RuntimeError : Nat := 85
noncomputable abbrev f_runtime_PanicNilError_RuntimeError : Func := Go.Proofs.Try.f85
theorem at_runtime_PanicNilError_RuntimeError : PP.funcs[n_runtime_PanicNilError_RuntimeError]? = some f_runtime_PanicNilError_RuntimeError := Go.Proofs.Try.func85
abbrev n_abi_Type_Align : Nat := 86
noncomputable abbrev f_abi_Type_Align : Func := Go.Proofs.Try.f86
theorem at_abi_Type_Align : PP.funcs[n_abi_Type_Align]? = some f_abi_Type_Align := Go.Proofs.Try.func86
abbrev n_maps_unhashableTypeError_Error : Nat := 87
noncomputable abbrev f_maps_unhashableTypeError_Error : Func := Go.Proofs.Try.f87
theorem at_maps_unhashableTypeError_Error : PP.funcs[n_maps_unhashableTypeError_Error]? = some f_maps_unhashableTypeError_Error := Go.Proofs.Try.func87
abbrev n_maps_unhashableTypeError_RuntimeError : Nat := 88
noncomputable abbrev f_maps_unhashableTypeError_RuntimeError : Func := Go.Proofs.Try.f88
theorem at_maps_unhashableTypeError_RuntimeError : PP.funcs[n_maps_unhashableTypeError_RuntimeError]? = some f_maps_unhashableTypeError_RuntimeError := Go.Proofs.Try.func88
abbrev n_api_Errno_Error : Nat := 89
noncomputable abbrev f_api_Errno_Error : Func := Go.Proofs.Try.f89
theorem at_api_Errno_Error : PP.funcs[n_api_Errno_Error]? = some f_api_Errno_Error := Go.Proofs.Try.func89
abbrev n_errors_errorString_Error : Nat := 90
noncomputable abbrev f_errors_errorString_Error : Func := Go.Proofs.Try.f90
theorem at_errors_errorString_Error : PP.funcs[n_errors_errorString_Error]? = some f_errors_errorString_Error := Go.Proofs.Try.func90
abbrev n_abi_Kind_String : Nat := 91
noncomputable abbrev f_abi_Kind_String : Func := Go.Proofs.Try.f91
theorem at_abi_Kind_String : PP.funcs[n_abi_Kind_String]? = some f_abi_Kind_String := Go.Proofs.Try.func91

end Go.Own
