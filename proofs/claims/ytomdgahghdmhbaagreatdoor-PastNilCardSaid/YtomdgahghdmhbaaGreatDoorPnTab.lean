import Derived.Test.YtomdgahghdmhbaaGreatDoorQxRunEx
import Derived.Test.YtomdgahghdmhbaaGreatDoorProg
import Derived.KernelRfl
namespace Go.Proofs
open Go Go.Qx
set_option linter.unusedVariables false
set_option maxRecDepth 1000000
set_option maxHeartbeats 0
def al36_0a : List V := [.raw (.string ⟨#[109]⟩)]
def al36_0v : V := .raw (.bool true)
def al36_0h : Heap := []
def al36_0t : KTab := (315, al36_0a, al36_0v, al36_0h, 1) :: []
theorem al36_0 : KTabOk Tryz.prog al36_0t := KTabOk.run (KTabOk.nil Tryz.prog) 2000 rfl fun w0 F => by kernel_rfl
def al36_1a : List V := [.raw (.string ⟨#[97]⟩)]
def al36_1v : V := .raw (.bool true)
def al36_1h : Heap := []
def al36_1t : KTab := (315, al36_1a, al36_1v, al36_1h, 1) :: al36_0t
theorem al36_1 : KTabOk Tryz.prog al36_1t := KTabOk.run al36_0 2000 rfl fun w0 F => by kernel_rfl
def al36_2a : List V := [.sl [.agg [.raw (.string ⟨#[109]⟩), .sl [.agg [.raw (.string ⟨#[97]⟩), .raw (.int .i64 1), .raw (.int .i64 3), .raw (.bool false), .raw (.bool false), .raw (.int .i64 0)]] true none]] true none]
def al36_2v : V := .tup [.agg [.raw (.int .i64 0), .raw (.int .i64 0), .raw (.int .i64 0)], .raw (.int .u8 0)]
def al36_2h : Heap := []
def al36_2t : KTab := (242, al36_2a, al36_2v, al36_2h, 1) :: al36_1t
theorem al36_2 : KTabOk Tryz.prog al36_2t := KTabOk.run al36_1 2000 rfl fun w0 F => by kernel_rfl
def al36_3a : List V := [.sl [.agg [.raw (.string ⟨#[109]⟩), .sl [.agg [.raw (.string ⟨#[97]⟩), .raw (.int .i64 1), .raw (.int .i64 3), .raw (.bool false), .raw (.bool false), .raw (.int .i64 0)]] true none]] true none, .raw (.int .i64 0), .raw (.int .i64 0)]
def al36_3v : V := .raw (.int .u8 0)
def al36_3h : Heap := []
def al36_3t : KTab := (117, al36_3a, al36_3v, al36_3h, 1) :: al36_2t
theorem al36_3 : KTabOk Tryz.prog al36_3t := KTabOk.run al36_2 2000 rfl fun w0 F => by kernel_rfl
def al36_4a : List V := [.sl [.agg [.raw (.string ⟨#[109]⟩), .sl [.agg [.raw (.string ⟨#[97]⟩), .raw (.int .i64 1), .raw (.int .i64 3), .raw (.bool false), .raw (.bool false), .raw (.int .i64 0)]] true none]] true none, .raw (.int .i64 0), .raw (.slice none 0 0), .raw (.int .i64 0)]
def al36_4v : V := .tup [.raw (.int .i64 0), .raw (.int .i64 0), .raw (.int .u8 0)]
def al36_4h : Heap := []
def al36_4t : KTab := (161, al36_4a, al36_4v, al36_4h, 1) :: al36_3t
theorem al36_4 : KTabOk Tryz.prog al36_4t := KTabOk.run al36_3 2000 rfl fun w0 F => by kernel_rfl
def al36_5a : List V := [.agg [.raw (.string ⟨#[109]⟩), .sl [.agg [.raw (.string ⟨#[97]⟩), .raw (.int .i64 1), .raw (.int .i64 3), .raw (.bool false), .raw (.bool false), .raw (.int .i64 0)]] true none]]
def al36_5v : V := .sl [.raw (.int .i64 0)] false (some 1)
def al36_5h : Heap := [(1, .own 1)]
def al36_5t : KTab := (164, al36_5a, al36_5v, al36_5h, 2) :: al36_4t
theorem al36_5 : KTabOk Tryz.prog al36_5t := KTabOk.run al36_4 2000 rfl fun w0 F => by kernel_rfl
def al36_6a : List V := [.sl [.agg [.raw (.string ⟨#[109]⟩), .sl [.agg [.raw (.string ⟨#[97]⟩), .raw (.int .i64 1), .raw (.int .i64 3), .raw (.bool false), .raw (.bool false), .raw (.int .i64 0)]] true none]] true none, .raw (.int .i64 0), .raw (.slice none 0 0)]
def al36_6v : V := .sl [] false (some 1)
def al36_6h : Heap := [(1, .own 1)]
def al36_6t : KTab := (132, al36_6a, al36_6v, al36_6h, 2) :: al36_5t
theorem al36_6 : KTabOk Tryz.prog al36_6t := KTabOk.run al36_5 2000 rfl fun w0 F => by kernel_rfl
def al36_7a : List V := [.sl [.agg [.raw (.string ⟨#[109]⟩), .sl [.agg [.raw (.string ⟨#[97]⟩), .raw (.int .i64 1), .raw (.int .i64 3), .raw (.bool false), .raw (.bool false), .raw (.int .i64 0)]] true none]] true none, .raw (.int .i64 0), .raw (.slice none 0 0), .raw (.int .i64 0)]
def al36_7v : V := .tup [.sl [] false (some 1), .raw (.int .u8 0)]
def al36_7h : Heap := [(1, .own 1)]
def al36_7t : KTab := (53, al36_7a, al36_7v, al36_7h, 2) :: al36_6t
theorem al36_7 : KTabOk Tryz.prog al36_7t := KTabOk.run al36_6 2000 rfl fun w0 F => by kernel_rfl
def al36_8a : List V := [.sl [.agg [.raw (.string ⟨#[109]⟩), .sl [.agg [.raw (.string ⟨#[97]⟩), .raw (.int .i64 1), .raw (.int .i64 3), .raw (.bool false), .raw (.bool false), .raw (.int .i64 0)]] true none]] true none]
def al36_8v : V := .sl [.agg [.raw (.string ⟨#[109]⟩), .sl [.agg [.raw (.string ⟨#[97]⟩), .raw (.int .i64 1), .raw (.int .i64 3), .raw (.bool false), .raw (.bool false), .raw (.int .i64 0)]] true none]] false (some 1)
def al36_8h : Heap := [(1, .own 2)]
def al36_8t : KTab := (118, al36_8a, al36_8v, al36_8h, 2) :: al36_7t
theorem al36_8 : KTabOk Tryz.prog al36_8t := KTabOk.run al36_7 2000 rfl fun w0 F => by kernel_rfl
def al36_9a : List V := [.sl [.agg [.raw (.string ⟨#[109]⟩), .sl [.agg [.raw (.string ⟨#[97]⟩), .raw (.int .i64 1), .raw (.int .i64 3), .raw (.bool false), .raw (.bool false), .raw (.int .i64 0)]] true none]] false none]
def al36_9v : V := .tup [.agg [.raw (.int .i64 0), .raw (.int .i64 0), .raw (.int .i64 0)], .raw (.int .u8 0)]
def al36_9h : Heap := []
def al36_9t : KTab := (242, al36_9a, al36_9v, al36_9h, 1) :: al36_8t
theorem al36_9 : KTabOk Tryz.prog al36_9t := KTabOk.run al36_8 2000 rfl fun w0 F => by kernel_rfl
def al36_10a : List V := [.sl [.agg [.raw (.string ⟨#[109]⟩), .sl [.agg [.raw (.string ⟨#[97]⟩), .raw (.int .i64 1), .raw (.int .i64 3), .raw (.bool false), .raw (.bool false), .raw (.int .i64 0)]] true none]] false none, .raw (.int .i64 0), .raw (.int .i64 0)]
def al36_10v : V := .raw (.int .u8 0)
def al36_10h : Heap := []
def al36_10t : KTab := (117, al36_10a, al36_10v, al36_10h, 1) :: al36_9t
theorem al36_10 : KTabOk Tryz.prog al36_10t := KTabOk.run al36_9 2000 rfl fun w0 F => by kernel_rfl
def al36_11a : List V := [.sl [.agg [.raw (.string ⟨#[109]⟩), .sl [.agg [.raw (.string ⟨#[97]⟩), .raw (.int .i64 1), .raw (.int .i64 3), .raw (.bool false), .raw (.bool false), .raw (.int .i64 0)]] true none]] false none, .raw (.int .i64 0), .sl [] false none, .raw (.int .i64 0)]
def al36_11v : V := .tup [.raw (.int .i64 0), .raw (.int .i64 0), .raw (.int .u8 0)]
def al36_11h : Heap := []
def al36_11t : KTab := (161, al36_11a, al36_11v, al36_11h, 1) :: al36_10t
theorem al36_11 : KTabOk Tryz.prog al36_11t := KTabOk.run al36_10 2000 rfl fun w0 F => by kernel_rfl
def al36_12a : List V := [.sl [.agg [.raw (.string ⟨#[109]⟩), .sl [.agg [.raw (.string ⟨#[97]⟩), .raw (.int .i64 1), .raw (.int .i64 3), .raw (.bool false), .raw (.bool false), .raw (.int .i64 0)]] true none]] false none, .raw (.int .i64 0)]
def al36_12v : V := .raw (.int .u8 0)
def al36_12h : Heap := []
def al36_12t : KTab := (177, al36_12a, al36_12v, al36_12h, 1) :: al36_11t
theorem al36_12 : KTabOk Tryz.prog al36_12t := KTabOk.run al36_11 2000 rfl fun w0 F => by kernel_rfl
def al36_13a : List V := [.raw (.string ⟨#[97]⟩), .raw (.string ⟨#[46]⟩)]
def al36_13v : V := .raw (.int .i64 (-1))
def al36_13h : Heap := []
def al36_13t : KTab := (403, al36_13a, al36_13v, al36_13h, 1) :: al36_12t
theorem al36_13 : KTabOk Tryz.prog al36_13t := KTabOk.run al36_12 2000 rfl fun w0 F => by kernel_rfl
def al36_14a : List V := [.sl [.agg [.raw (.string ⟨#[97]⟩), .raw (.slice none 0 0)]] true none]
def al36_14v : V := .tup [.agg [.raw (.int .i64 0), .raw (.int .i64 0), .raw (.int .i64 0)], .raw (.int .u8 0)]
def al36_14h : Heap := []
def al36_14t : KTab := (242, al36_14a, al36_14v, al36_14h, 1) :: al36_13t
theorem al36_14 : KTabOk Tryz.prog al36_14t := KTabOk.run al36_13 2000 rfl fun w0 F => by kernel_rfl
def al36_15a : List V := [.raw (.string ⟨#[97]⟩)]
def al36_15v : V := .tup [.sl [.raw (.string ⟨#[97]⟩)] false (some 1), .raw (.int .u8 0)]
def al36_15h : Heap := [(1, .own 1)]
def al36_15t : KTab := (229, al36_15a, al36_15v, al36_15h, 2) :: al36_14t
theorem al36_15 : KTabOk Tryz.prog al36_15t := KTabOk.run al36_14 2000 rfl fun w0 F => by kernel_rfl
def al36_16a : List V := [.agg [.raw (.string ⟨#[109]⟩), .sl [.agg [.raw (.string ⟨#[97]⟩), .raw (.int .i64 1), .raw (.int .i64 3), .raw (.bool false), .raw (.bool false), .raw (.int .i64 0)]] true none], .raw (.string ⟨#[97]⟩)]
def al36_16v : V := .tup [.raw (.int .i64 0), .raw (.bool true)]
def al36_16h : Heap := []
def al36_16t : KTab := (305, al36_16a, al36_16v, al36_16h, 1) :: al36_15t
theorem al36_16 : KTabOk Tryz.prog al36_16t := KTabOk.run al36_15 2000 rfl fun w0 F => by kernel_rfl
def al36_17a : List V := [.sl [.agg [.raw (.string ⟨#[109]⟩), .sl [.agg [.raw (.string ⟨#[97]⟩), .raw (.int .i64 1), .raw (.int .i64 3), .raw (.bool false), .raw (.bool false), .raw (.int .i64 0)]] true none]] false none, .raw (.int .i64 0), .sl [.raw (.string ⟨#[97]⟩)] false none]
def al36_17v : V := .tup [.sl [.raw (.int .i64 1)] false (some 1), .raw (.bool true)]
def al36_17h : Heap := [(1, .own 1)]
def al36_17t : KTab := (230, al36_17a, al36_17v, al36_17h, 2) :: al36_16t
theorem al36_17 : KTabOk Tryz.prog al36_17t := KTabOk.run al36_16 2000 rfl fun w0 F => by kernel_rfl
def al36_18a : List V := [.sl [.agg [.raw (.string ⟨#[109]⟩), .sl [.agg [.raw (.string ⟨#[97]⟩), .raw (.int .i64 1), .raw (.int .i64 3), .raw (.bool false), .raw (.bool false), .raw (.int .i64 0)]] true none]] false none, .raw (.int .i64 0), .raw (.string ⟨#[97]⟩)]
def al36_18v : V := .tup [.sl [.raw (.int .i64 1)] false (some 1), .raw (.int .u8 0)]
def al36_18h : Heap := [(1, .own 1)]
def al36_18t : KTab := (155, al36_18a, al36_18v, al36_18h, 2) :: al36_17t
theorem al36_18 : KTabOk Tryz.prog al36_18t := KTabOk.run al36_17 2000 rfl fun w0 F => by kernel_rfl
def al36_19a : List V := [.sl [.agg [.raw (.string ⟨#[109]⟩), .sl [.agg [.raw (.string ⟨#[97]⟩), .raw (.int .i64 1), .raw (.int .i64 3), .raw (.bool false), .raw (.bool false), .raw (.int .i64 0)]] true none]] false none, .raw (.int .i64 0), .sl [] false none, .raw (.int .i64 0), .raw (.string ⟨#[97]⟩)]
def al36_19v : V := .tup [.sl [.raw (.int .i64 1)] false (some 1), .raw (.int .u8 0)]
def al36_19h : Heap := [(1, .own 1)]
def al36_19t : KTab := (88, al36_19a, al36_19v, al36_19h, 2) :: al36_18t
theorem al36_19 : KTabOk Tryz.prog al36_19t := KTabOk.run al36_18 2000 rfl fun w0 F => by kernel_rfl
def al36_20a : List V := [.agg [.raw (.string ⟨#[109]⟩), .sl [.agg [.raw (.string ⟨#[97]⟩), .raw (.int .i64 1), .raw (.int .i64 3), .raw (.bool false), .raw (.bool false), .raw (.int .i64 0)]] true none], .raw (.int .i64 1)]
def al36_20v : V := .tup [.raw (.int .i64 0), .raw (.bool true)]
def al36_20h : Heap := []
def al36_20t : KTab := (159, al36_20a, al36_20v, al36_20h, 1) :: al36_19t
theorem al36_20 : KTabOk Tryz.prog al36_20t := KTabOk.run al36_19 2000 rfl fun w0 F => by kernel_rfl
def al36_21a : List V := [.sl [.agg [.raw (.string ⟨#[109]⟩), .sl [.agg [.raw (.string ⟨#[97]⟩), .raw (.int .i64 1), .raw (.int .i64 3), .raw (.bool false), .raw (.bool false), .raw (.int .i64 0)]] true none]] false none, .raw (.int .i64 0), .sl [.raw (.int .i64 1)] false none]
def al36_21v : V := .agg [.raw (.string ⟨#[97]⟩), .raw (.int .i64 1), .raw (.int .i64 3), .raw (.bool false), .raw (.bool false), .raw (.int .i64 0)]
def al36_21h : Heap := []
def al36_21t : KTab := (150, al36_21a, al36_21v, al36_21h, 1) :: al36_20t
theorem al36_21 : KTabOk Tryz.prog al36_21t := KTabOk.run al36_20 2000 rfl fun w0 F => by kernel_rfl
def al36_22a : List V := [.sl [.agg [.raw (.string ⟨#[109]⟩), .sl [.agg [.raw (.string ⟨#[97]⟩), .raw (.int .i64 1), .raw (.int .i64 3), .raw (.bool false), .raw (.bool false), .raw (.int .i64 0)]] true none]] false none, .agg [.raw (.string ⟨#[97]⟩), .raw (.int .i64 1), .raw (.int .i64 3), .raw (.bool false), .raw (.bool false), .raw (.int .i64 0)], .raw (.int .i64 0)]
def al36_22v : V := .raw (.int .u8 0)
def al36_22h : Heap := []
def al36_22t : KTab := (216, al36_22a, al36_22v, al36_22h, 1) :: al36_21t
theorem al36_22 : KTabOk Tryz.prog al36_22t := KTabOk.run al36_21 2000 rfl fun w0 F => by kernel_rfl
def al36_23a : List V := [.raw (.int .i64 3)]
def al36_23v : V := .tup [.raw (.int .i64 0), .raw (.int .u8 0)]
def al36_23h : Heap := []
def al36_23t : KTab := (225, al36_23a, al36_23v, al36_23h, 1) :: al36_22t
theorem al36_23 : KTabOk Tryz.prog al36_23t := KTabOk.run al36_22 2000 rfl fun w0 F => by kernel_rfl
def al36_24a : List V := [.sl [.raw (.int .u8 5)] true none]
def al36_24v : V := .tup [.raw (.int .u64 5), .raw (.int .i64 1), .raw (.int .u8 0)]
def al36_24h : Heap := []
def al36_24t : KTab := (280, al36_24a, al36_24v, al36_24h, 1) :: al36_23t
theorem al36_24 : KTabOk Tryz.prog al36_24t := KTabOk.run al36_23 2000 rfl fun w0 F => by kernel_rfl
def al36_25a : List V := [.raw (.int .i64 3), .raw (.int .u64 5)]
def al36_25v : V := .tup [.raw (.int .u64 5), .raw (.int .u8 0)]
def al36_25h : Heap := []
def al36_25t : KTab := (284, al36_25a, al36_25v, al36_25h, 1) :: al36_24t
theorem al36_25 : KTabOk Tryz.prog al36_25t := KTabOk.run al36_24 2000 rfl fun w0 F => by kernel_rfl
def al36_26a : List V := [.raw (.int .i64 3), .sl [.raw (.int .u8 5)] true none]
def al36_26v : V := .tup [.raw (.int .u64 5), .raw (.int .u8 0)]
def al36_26h : Heap := []
def al36_26t : KTab := (238, al36_26a, al36_26v, al36_26h, 1) :: al36_25t
theorem al36_26 : KTabOk Tryz.prog al36_26t := KTabOk.run al36_25 2000 rfl fun w0 F => by kernel_rfl
def al36_27a : List V := [.sl [.agg [.raw (.string ⟨#[109]⟩), .sl [.agg [.raw (.string ⟨#[97]⟩), .raw (.int .i64 1), .raw (.int .i64 3), .raw (.bool false), .raw (.bool false), .raw (.int .i64 0)]] true none]] false none, .agg [.raw (.string ⟨#[97]⟩), .raw (.int .i64 1), .raw (.int .i64 3), .raw (.bool false), .raw (.bool false), .raw (.int .i64 0)], .sl [.raw (.int .u8 5)] true none, .raw (.int .i64 0)]
def al36_27v : V := .raw (.int .u8 0)
def al36_27h : Heap := []
def al36_27t : KTab := (295, al36_27a, al36_27v, al36_27h, 1) :: al36_26t
theorem al36_27 : KTabOk Tryz.prog al36_27t := KTabOk.run al36_26 2000 rfl fun w0 F => by kernel_rfl
def al36_28a : List V := [.sl [.agg [.raw (.string ⟨#[109]⟩), .sl [.agg [.raw (.string ⟨#[97]⟩), .raw (.int .i64 1), .raw (.int .i64 3), .raw (.bool false), .raw (.bool false), .raw (.int .i64 0)]] true none]] false none, .agg [.raw (.string ⟨#[97]⟩), .raw (.int .i64 1), .raw (.int .i64 3), .raw (.bool false), .raw (.bool false), .raw (.int .i64 0)], .sl [.raw (.int .u8 5)] true none, .raw (.int .i64 0)]
def al36_28v : V := .raw (.int .u8 0)
def al36_28h : Heap := []
def al36_28t : KTab := (224, al36_28a, al36_28v, al36_28h, 1) :: al36_27t
theorem al36_28 : KTabOk Tryz.prog al36_28t := KTabOk.run al36_27 2000 rfl fun w0 F => by kernel_rfl
def al36_29a : List V := [.agg [.raw (.int .i64 1), .raw (.int .i64 0)]]
def al36_29v : V := .raw (.bool true)
def al36_29h : Heap := []
def al36_29t : KTab := (308, al36_29a, al36_29v, al36_29h, 1) :: al36_28t
theorem al36_29 : KTabOk Tryz.prog al36_29t := KTabOk.run al36_28 2000 rfl fun w0 F => by kernel_rfl
def al36_30a : List V := [.raw (.slice none 0 0), .agg [.raw (.int .i64 1), .raw (.int .i64 0)]]
def al36_30v : V := .tup [.sl [.raw (.int .u8 8)] false (some 1), .raw (.int .u8 0)]
def al36_30h : Heap := [(1, .own 1)]
def al36_30t : KTab := (299, al36_30a, al36_30v, al36_30h, 2) :: al36_29t
theorem al36_30 : KTabOk Tryz.prog al36_30t := KTabOk.run al36_29 2000 rfl fun w0 F => by kernel_rfl
def al36_31a : List V := [.raw (.int .i64 0), .sl [.raw (.int .u8 5)] true none]
def al36_31v : V := .raw (.bool true)
def al36_31h : Heap := []
def al36_31t : KTab := (300, al36_31a, al36_31v, al36_31h, 1) :: al36_30t
theorem al36_31 : KTabOk Tryz.prog al36_31t := KTabOk.run al36_30 2000 rfl fun w0 F => by kernel_rfl
def al36_32a : List V := [.raw (.slice none 0 0), .raw (.int .i64 1), .raw (.int .i64 0), .sl [.raw (.int .u8 5)] true none]
def al36_32v : V := .tup [.sl [.raw (.int .u8 8), .raw (.int .u8 5)] false (some 1), .raw (.int .u8 0)]
def al36_32h : Heap := [(1, .own 1)]
def al36_32t : KTab := (227, al36_32a, al36_32v, al36_32h, 2) :: al36_31t
theorem al36_32 : KTabOk Tryz.prog al36_32t := KTabOk.run al36_31 2000 rfl fun w0 F => by kernel_rfl
def al36_33a : List V := [.sl [.agg [.raw (.string ⟨#[109]⟩), .sl [.agg [.raw (.string ⟨#[97]⟩), .raw (.int .i64 1), .raw (.int .i64 3), .raw (.bool false), .raw (.bool false), .raw (.int .i64 0)]] true none]] false none, .agg [.raw (.string ⟨#[97]⟩), .raw (.int .i64 1), .raw (.int .i64 3), .raw (.bool false), .raw (.bool false), .raw (.int .i64 0)], .sl [.raw (.int .u8 5)] true none, .raw (.int .i64 0)]
def al36_33v : V := .tup [.sl [.raw (.int .u8 8), .raw (.int .u8 5)] false (some 1), .raw (.int .u8 0)]
def al36_33h : Heap := [(1, .own 1)]
def al36_33t : KTab := (152, al36_33a, al36_33v, al36_33h, 2) :: al36_32t
theorem al36_33 : KTabOk Tryz.prog al36_33t := KTabOk.run al36_32 2000 rfl fun w0 F => by kernel_rfl
def al36_34a : List V := [.sl [.agg [.raw (.string ⟨#[109]⟩), .sl [.agg [.raw (.string ⟨#[97]⟩), .raw (.int .i64 1), .raw (.int .i64 3), .raw (.bool false), .raw (.bool false), .raw (.int .i64 0)]] true none]] false none, .raw (.int .i64 0), .sl [] false none, .raw (.int .i64 0), .raw (.string ⟨#[97]⟩), .sl [.raw (.int .u8 5)] true none, .raw (.bool true)]
def al36_34v : V := .tup [.sl [.raw (.int .u8 8), .raw (.int .u8 5)] false (some 1), .raw (.int .u8 0)]
def al36_34h : Heap := [(1, .own 1)]
def al36_34t : KTab := (86, al36_34a, al36_34v, al36_34h, 2) :: al36_33t
theorem al36_34 : KTabOk Tryz.prog al36_34t := KTabOk.run al36_33 2000 rfl fun w0 F => by kernel_rfl
def al36_35a : List V := [.agg [.raw (.string ⟨#[97]⟩), .raw (.bool false), .sl [.raw (.int .u8 5)] true none], .sl [.agg [.raw (.string ⟨#[109]⟩), .sl [.agg [.raw (.string ⟨#[97]⟩), .raw (.int .i64 1), .raw (.int .i64 3), .raw (.bool false), .raw (.bool false), .raw (.int .i64 0)]] true none]] false none, .raw (.int .i64 0), .sl [] false none, .raw (.int .i64 0)]
def al36_35v : V := .tup [.sl [.raw (.int .u8 8), .raw (.int .u8 5)] false (some 1), .raw (.int .u8 0)]
def al36_35h : Heap := [(1, .own 1)]
def al36_35t : KTab := (145, al36_35a, al36_35v, al36_35h, 2) :: al36_34t
theorem al36_35 : KTabOk Tryz.prog al36_35t := KTabOk.run al36_34 2000 rfl fun w0 F => by kernel_rfl
def al36_36a : List V := [.sl [.agg [.raw (.string ⟨#[109]⟩), .sl [.agg [.raw (.string ⟨#[97]⟩), .raw (.int .i64 1), .raw (.int .i64 3), .raw (.bool false), .raw (.bool false), .raw (.int .i64 0)]] true none]] false none, .raw (.int .i64 0), .sl [] false none, .raw (.int .i64 0), .sl [.agg [.raw (.string ⟨#[97]⟩), .raw (.bool false), .sl [.raw (.int .u8 5)] true none]] true none]
def al36_36v : V := .tup [.sl [.raw (.int .u8 8), .raw (.int .u8 5)] false (some 1), .raw (.int .i64 0), .raw (.int .u8 0)]
def al36_36h : Heap := [(1, .own 1)]
def al36_36t : KTab := (69, al36_36a, al36_36v, al36_36h, 2) :: al36_35t
theorem al36_36 : KTabOk Tryz.prog al36_36t := KTabOk.run al36_35 2000 rfl fun w0 F => by kernel_rfl
def al36_37a : List V := [.sl [.raw (.int .u8 8), .raw (.int .u8 5)] false none]
def al36_37v : V := .tup [.raw (.int .u64 8), .raw (.int .i64 1), .raw (.int .u8 0)]
def al36_37h : Heap := []
def al36_37t : KTab := (280, al36_37a, al36_37v, al36_37h, 1) :: al36_36t
theorem al36_37 : KTabOk Tryz.prog al36_37t := KTabOk.run al36_36 2000 rfl fun w0 F => by kernel_rfl
def al36_38a : List V := [.sl [.raw (.int .u8 8), .raw (.int .u8 5)] false none]
def al36_38v : V := .tup [.agg [.raw (.int .i64 1), .raw (.int .i64 0)], .raw (.int .i64 1), .raw (.int .u8 0)]
def al36_38h : Heap := []
def al36_38t : KTab := (232, al36_38a, al36_38v, al36_38h, 1) :: al36_37t
theorem al36_38 : KTabOk Tryz.prog al36_38t := KTabOk.run al36_37 2000 rfl fun w0 F => by kernel_rfl
def al36_39a : List V := [.sl [.raw (.int .u8 5)] false none]
def al36_39v : V := .tup [.raw (.int .u64 5), .raw (.int .i64 1), .raw (.int .u8 0)]
def al36_39h : Heap := []
def al36_39t : KTab := (280, al36_39a, al36_39v, al36_39h, 1) :: al36_38t
theorem al36_39 : KTabOk Tryz.prog al36_39t := KTabOk.run al36_38 2000 rfl fun w0 F => by kernel_rfl
def al36_40a : List V := [.sl [.raw (.int .u8 5)] false none, .raw (.int .i64 0)]
def al36_40v : V := .tup [.raw (.int .i64 0), .raw (.int .u64 1), .raw (.int .u8 0)]
def al36_40h : Heap := []
def al36_40t : KTab := (350, al36_40a, al36_40v, al36_40h, 1) :: al36_39t
theorem al36_40 : KTabOk Tryz.prog al36_40t := KTabOk.run al36_39 2000 rfl fun w0 F => by kernel_rfl
def al36_41a : List V := [.sl [.raw (.int .u8 8), .raw (.int .u8 5)] false none, .raw (.int .i64 0)]
def al36_41v : V := .tup [.agg [.raw (.int .i64 1), .raw (.int .i64 0), .raw (.int .i64 0), .raw (.int .i64 1), .raw (.int .i64 2)], .raw (.int .u8 0)]
def al36_41h : Heap := []
def al36_41t : KTab := (306, al36_41a, al36_41v, al36_41h, 1) :: al36_40t
theorem al36_41 : KTabOk Tryz.prog al36_41t := KTabOk.run al36_40 2000 rfl fun w0 F => by kernel_rfl
def al36_42a : List V := [.agg [.raw (.string ⟨#[109]⟩), .sl [.agg [.raw (.string ⟨#[97]⟩), .raw (.int .i64 1), .raw (.int .i64 3), .raw (.bool false), .raw (.bool false), .raw (.int .i64 0)]] true none], .raw (.int .i64 1)]
def al36_42v : V := .raw (.int .i64 0)
def al36_42h : Heap := []
def al36_42t : KTab := (307, al36_42a, al36_42v, al36_42h, 1) :: al36_41t
theorem al36_42 : KTabOk Tryz.prog al36_42t := KTabOk.run al36_41 2000 rfl fun w0 F => by kernel_rfl
def al36_43a : List V := [.agg [.raw (.string ⟨#[109]⟩), .sl [.agg [.raw (.string ⟨#[97]⟩), .raw (.int .i64 1), .raw (.int .i64 3), .raw (.bool false), .raw (.bool false), .raw (.int .i64 0)]] true none], .sl [.raw (.int .u8 8), .raw (.int .u8 5)] false none, .raw (.int .i64 0)]
def al36_43v : V := .tup [.agg [.raw (.int .i64 1), .raw (.int .i64 0), .raw (.int .i64 0), .raw (.int .i64 1), .raw (.int .i64 2), .raw (.int .i64 0), .raw (.bool false)], .raw (.int .u8 0)]
def al36_43h : Heap := []
def al36_43t : KTab := (231, al36_43a, al36_43v, al36_43h, 1) :: al36_42t
theorem al36_43 : KTabOk Tryz.prog al36_43t := KTabOk.run al36_42 2000 rfl fun w0 F => by kernel_rfl
def al36_44a : List V := [.sl [.agg [.raw (.string ⟨#[109]⟩), .sl [.agg [.raw (.string ⟨#[97]⟩), .raw (.int .i64 1), .raw (.int .i64 3), .raw (.bool false), .raw (.bool false), .raw (.int .i64 0)]] true none]] false none, .raw (.int .i64 0), .sl [.raw (.int .u8 8), .raw (.int .u8 5)] false none, .raw (.int .i64 0)]
def al36_44v : V := .tup [.raw (.int .i64 0), .raw (.int .i64 0), .raw (.int .u8 0)]
def al36_44h : Heap := []
def al36_44t : KTab := (161, al36_44a, al36_44v, al36_44h, 1) :: al36_43t
theorem al36_44 : KTabOk Tryz.prog al36_44t := KTabOk.run al36_43 2000 rfl fun w0 F => by kernel_rfl
def al36_45a : List V := [.agg [.raw (.string ⟨#[109]⟩), .sl [.agg [.raw (.string ⟨#[97]⟩), .raw (.int .i64 1), .raw (.int .i64 3), .raw (.bool false), .raw (.bool false), .raw (.int .i64 0)]] true none], .sl [.raw (.int .u8 8), .raw (.int .u8 5)] false none]
def al36_45v : V := .tup [.sl [.agg [.raw (.int .i64 1), .raw (.int .i64 0), .raw (.int .i64 0), .raw (.int .i64 1), .raw (.int .i64 2), .raw (.int .i64 0), .raw (.bool false)]] false (some 1), .raw (.int .i64 0), .raw (.int .u8 0)]
def al36_45h : Heap := [(1, .own 7)]
def al36_45t : KTab := (156, al36_45a, al36_45v, al36_45h, 2) :: al36_44t
theorem al36_45 : KTabOk Tryz.prog al36_45t := KTabOk.run al36_44 2000 rfl fun w0 F => by kernel_rfl
def al36_46a : List V := [.raw (.int .i64 3), .sl [.raw (.int .u8 5)] false none]
def al36_46v : V := .tup [.raw (.int .u64 5), .raw (.int .u8 0)]
def al36_46h : Heap := []
def al36_46t : KTab := (238, al36_46a, al36_46v, al36_46h, 1) :: al36_45t
theorem al36_46 : KTabOk Tryz.prog al36_46t := KTabOk.run al36_45 2000 rfl fun w0 F => by kernel_rfl
def al36_47a : List V := [.raw (.int .i64 3), .raw (.int .u64 5)]
def al36_47v : V := .tup [.sl [.raw (.int .u8 5)] false (some 1), .raw (.int .u8 0)]
def al36_47h : Heap := [(1, .own 1)]
def al36_47t : KTab := (221, al36_47a, al36_47v, al36_47h, 2) :: al36_46t
theorem al36_47 : KTabOk Tryz.prog al36_47t := KTabOk.run al36_46 2000 rfl fun w0 F => by kernel_rfl
def al36_48a : List V := [.raw (.int .i64 0), .sl [.raw (.int .u8 5)] false none]
def al36_48v : V := .raw (.bool true)
def al36_48h : Heap := []
def al36_48t : KTab := (300, al36_48a, al36_48v, al36_48h, 1) :: al36_47t
theorem al36_48 : KTabOk Tryz.prog al36_48t := KTabOk.run al36_47 2000 rfl fun w0 F => by kernel_rfl
def al36_49a : List V := [.raw (.slice none 0 0), .raw (.int .i64 1), .raw (.int .i64 0), .sl [.raw (.int .u8 5)] false none]
def al36_49v : V := .tup [.sl [.raw (.int .u8 8), .raw (.int .u8 5)] false (some 1), .raw (.int .u8 0)]
def al36_49h : Heap := [(1, .own 1)]
def al36_49t : KTab := (227, al36_49a, al36_49v, al36_49h, 2) :: al36_48t
theorem al36_49 : KTabOk Tryz.prog al36_49t := KTabOk.run al36_48 2000 rfl fun w0 F => by kernel_rfl
def al36_50a : List V := [.raw (.slice none 0 0), .sl [.agg [.raw (.string ⟨#[109]⟩), .sl [.agg [.raw (.string ⟨#[97]⟩), .raw (.int .i64 1), .raw (.int .i64 3), .raw (.bool false), .raw (.bool false), .raw (.int .i64 0)]] true none]] false none, .agg [.raw (.string ⟨#[97]⟩), .raw (.int .i64 1), .raw (.int .i64 3), .raw (.bool false), .raw (.bool false), .raw (.int .i64 0)], .sl [.raw (.int .u8 8), .raw (.int .u8 5)] false none, .sl [.agg [.raw (.int .i64 1), .raw (.int .i64 0), .raw (.int .i64 0), .raw (.int .i64 1), .raw (.int .i64 2), .raw (.int .i64 0), .raw (.bool false)]] false none]
def al36_50v : V := .sl [.raw (.int .u8 8), .raw (.int .u8 5)] false (some 1)
def al36_50h : Heap := [(1, .own 1)]
def al36_50t : KTab := (213, al36_50a, al36_50v, al36_50h, 2) :: al36_49t
theorem al36_50 : KTabOk Tryz.prog al36_50t := KTabOk.run al36_49 2000 rfl fun w0 F => by kernel_rfl
def al36_51a : List V := [.sl [.agg [.raw (.string ⟨#[109]⟩), .sl [.agg [.raw (.string ⟨#[97]⟩), .raw (.int .i64 1), .raw (.int .i64 3), .raw (.bool false), .raw (.bool false), .raw (.int .i64 0)]] true none]] false none, .raw (.int .i64 0), .sl [.raw (.int .u8 8), .raw (.int .u8 5)] false none]
def al36_51v : V := .sl [.raw (.int .u8 8), .raw (.int .u8 5)] false (some 1)
def al36_51h : Heap := [(1, .own 1)]
def al36_51t : KTab := (132, al36_51a, al36_51v, al36_51h, 2) :: al36_50t
theorem al36_51 : KTabOk Tryz.prog al36_51t := KTabOk.run al36_50 2000 rfl fun w0 F => by kernel_rfl
def al36_52a : List V := [.sl [.agg [.raw (.string ⟨#[109]⟩), .sl [.agg [.raw (.string ⟨#[97]⟩), .raw (.int .i64 1), .raw (.int .i64 3), .raw (.bool false), .raw (.bool false), .raw (.int .i64 0)]] true none]] false none, .raw (.int .i64 0), .sl [.raw (.int .u8 8), .raw (.int .u8 5)] false none, .raw (.int .i64 0)]
def al36_52v : V := .tup [.sl [.raw (.int .u8 8), .raw (.int .u8 5)] false (some 1), .raw (.int .u8 0)]
def al36_52h : Heap := [(1, .own 1)]
def al36_52t : KTab := (53, al36_52a, al36_52v, al36_52h, 2) :: al36_51t
theorem al36_52 : KTabOk Tryz.prog al36_52t := KTabOk.run al36_51 2000 rfl fun w0 F => by kernel_rfl
def al36_53a : List V := []
def al36_53v : V := .raw (.bool true)
def al36_53h : Heap := []
def al36_53t : KTab := (74, al36_53a, al36_53v, al36_53h, 1) :: al36_52t
theorem al36_53 : KTabOk Tryz.prog al36_53t := KTabOk.run al36_52 2000 rfl fun w0 F => by kernel_rfl
end Go.Proofs
