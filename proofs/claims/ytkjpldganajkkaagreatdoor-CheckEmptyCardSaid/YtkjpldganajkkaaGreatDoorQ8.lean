/-
  Ty, as one text. Proved step by step; no conditions beside what is said.
-/
import Derived.Test.YtkjpldganajkkaaGreatDoorQ5
import Derived.Test.YtkjpldganajkkaaGreatDoorQ7
set_option linter.unusedSimpArgs false
set_option linter.unusedVariables false
set_option linter.unusedSectionVars false
set_option maxRecDepth 100000
namespace Go.Proofs.YtkjpldganajkkaaGreatDoor.S
open Go Go.RowKit Go.Proofs.YtkjpldganajkkaaGreatDoor.NICE
theorem sz2:szOf Tryz.prog 2=some 1:=by kernel_rfl
theorem ag2:aggT Tryz.prog 2=some false:=by kernel_rfl
theorem by2:bytesOf Tryz.prog 2=some 8:=by kernel_rfl
theorem ze2:zeroOf Tryz.prog 2=some (.int .i64 0):=by kernel_rfl
theorem sz3:szOf Tryz.prog 3=some 1:=by kernel_rfl
theorem ag3:aggT Tryz.prog 3=some false:=by kernel_rfl
theorem by3:bytesOf Tryz.prog 3=some 8:=by kernel_rfl
theorem ze3:zeroOf Tryz.prog 3=some (.int .i64 0):=by kernel_rfl
theorem sz4:szOf Tryz.prog 4=some 1:=by kernel_rfl
theorem ag4:aggT Tryz.prog 4=some false:=by kernel_rfl
theorem by4:bytesOf Tryz.prog 4=some 1:=by kernel_rfl
theorem ze4:zeroOf Tryz.prog 4=some (.bool false):=by kernel_rfl
theorem sz5:szOf Tryz.prog 5=some 1:=by kernel_rfl
theorem ag5:aggT Tryz.prog 5=some false:=by kernel_rfl
theorem by5:bytesOf Tryz.prog 5=some 1:=by kernel_rfl
theorem ze5:zeroOf Tryz.prog 5=some (.int .u8 0):=by kernel_rfl
theorem sz9:szOf Tryz.prog 9=some 1:=by kernel_rfl
theorem ag9:aggT Tryz.prog 9=some false:=by kernel_rfl
theorem by9:bytesOf Tryz.prog 9=some 16:=by kernel_rfl
theorem ze9:zeroOf Tryz.prog 9=some (.str []):=by kernel_rfl
theorem sz20:szOf Tryz.prog 20=some 1:=by kernel_rfl
theorem ag20:aggT Tryz.prog 20=some false:=by kernel_rfl
theorem by20:bytesOf Tryz.prog 20=some 16:=by kernel_rfl
theorem ze20:zeroOf Tryz.prog 20=some .nilIface:=by kernel_rfl
theorem sz22:szOf Tryz.prog 22=some 5:=by kernel_rfl
theorem ag22:aggT Tryz.prog 22=some true:=by kernel_rfl
theorem by22:bytesOf Tryz.prog 22=some 40:=by kernel_rfl
theorem ze22:zeroOf Tryz.prog 22=some (.agg [(.int .i64 0),(.int .i64 0),(.int .i64 0),(.int .i64 0),(.int .i64 0)]):=by kernel_rfl
theorem sz24:szOf Tryz.prog 24=some 8:=by kernel_rfl
theorem ag24:aggT Tryz.prog 24=some true:=by kernel_rfl
theorem by24:bytesOf Tryz.prog 24=some 64:=by kernel_rfl
theorem ze24:zeroOf Tryz.prog 24=some (.agg ([(.int .i64 0),(.int .i64 0),(.int .i64 0),(.int .i64 0),(.int .i64 0),(.int .i64 0),(.int .i64 0),(.int .i64 0)])):=by kernel_rfl
theorem fa24_0 (b o:Nat):nfieldAddr Tryz.prog 24 (.ptr (some (b,o))) 0=some (.ptr (some (b,o))):=by kernel_rfl
theorem fi24_0 (cs:List NVal):nfield Tryz.prog 24 (.agg cs) 0=some (.agg ((cs.drop 0).take 5)):=by kernel_rfl
theorem fa24_1 (b o:Nat):nfieldAddr Tryz.prog 24 (.ptr (some (b,o))) 1=some (.ptr (some (b,o+5))):=by kernel_rfl
theorem fi24_1 (cs:List NVal):nfield Tryz.prog 24 (.agg cs) 1=cs[5]? :=by kernel_rfl
theorem fa24_2 (b o:Nat):nfieldAddr Tryz.prog 24 (.ptr (some (b,o))) 2=some (.ptr (some (b,o+6))):=by kernel_rfl
theorem fi24_2 (cs:List NVal):nfield Tryz.prog 24 (.agg cs) 2=cs[6]? :=by kernel_rfl
theorem fa24_3 (b o:Nat):nfieldAddr Tryz.prog 24 (.ptr (some (b,o))) 3=some (.ptr (some (b,o+7))):=by kernel_rfl
theorem fi24_3 (cs:List NVal):nfield Tryz.prog 24 (.agg cs) 3=cs[7]? :=by kernel_rfl
theorem sz25:szOf Tryz.prog 25=some 1:=by kernel_rfl
theorem ag25:aggT Tryz.prog 25=some false:=by kernel_rfl
theorem by25:bytesOf Tryz.prog 25=some 24:=by kernel_rfl
theorem ze25:zeroOf Tryz.prog 25=some (.slice none 0 0 none):=by kernel_rfl
theorem sz27:szOf Tryz.prog 27=some 1:=by kernel_rfl
theorem ag27:aggT Tryz.prog 27=some false:=by kernel_rfl
theorem by27:bytesOf Tryz.prog 27=some 8:=by kernel_rfl
theorem ze27:zeroOf Tryz.prog 27=some (.ptr none):=by kernel_rfl
theorem sz28:szOf Tryz.prog 28=some 1:=by kernel_rfl
theorem ag28:aggT Tryz.prog 28=some false:=by kernel_rfl
theorem by28:bytesOf Tryz.prog 28=some 8:=by kernel_rfl
theorem ze28:zeroOf Tryz.prog 28=some (.int .i64 0):=by kernel_rfl
theorem sz32:szOf Tryz.prog 32=some 1:=by kernel_rfl
theorem ag32:aggT Tryz.prog 32=some false:=by kernel_rfl
theorem by32:bytesOf Tryz.prog 32=some 24:=by kernel_rfl
theorem ze32:zeroOf Tryz.prog 32=some (.slice none 0 0 none):=by kernel_rfl
theorem sz34:szOf Tryz.prog 34=some 4:=by kernel_rfl
theorem ag34:aggT Tryz.prog 34=some true:=by kernel_rfl
theorem by34:bytesOf Tryz.prog 34=some 56:=by kernel_rfl
theorem ze34:zeroOf Tryz.prog 34=some (.agg [(.slice none 0 0 none),(.str []),(.int .i64 0),(.bool false)]):=by kernel_rfl
theorem fa34_0 (b o:Nat):nfieldAddr Tryz.prog 34 (.ptr (some (b,o))) 0=some (.ptr (some (b,o))):=by kernel_rfl
theorem fi34_0 (cs:List NVal):nfield Tryz.prog 34 (.agg cs) 0=cs[0]? :=by kernel_rfl
theorem fa34_1 (b o:Nat):nfieldAddr Tryz.prog 34 (.ptr (some (b,o))) 1=some (.ptr (some (b,o+1))):=by kernel_rfl
theorem fi34_1 (cs:List NVal):nfield Tryz.prog 34 (.agg cs) 1=cs[1]? :=by kernel_rfl
theorem fa34_2 (b o:Nat):nfieldAddr Tryz.prog 34 (.ptr (some (b,o))) 2=some (.ptr (some (b,o+2))):=by kernel_rfl
theorem fi34_2 (cs:List NVal):nfield Tryz.prog 34 (.agg cs) 2=cs[2]? :=by kernel_rfl
theorem fa34_3 (b o:Nat):nfieldAddr Tryz.prog 34 (.ptr (some (b,o))) 3=some (.ptr (some (b,o+3))):=by kernel_rfl
theorem fi34_3 (cs:List NVal):nfield Tryz.prog 34 (.agg cs) 3=cs[3]? :=by kernel_rfl
theorem sz39:szOf Tryz.prog 39=some 1:=by kernel_rfl
theorem ag39:aggT Tryz.prog 39=some false:=by kernel_rfl
theorem by39:bytesOf Tryz.prog 39=some 24:=by kernel_rfl
theorem ze39:zeroOf Tryz.prog 39=some (.slice none 0 0 none):=by kernel_rfl
theorem sz44:szOf Tryz.prog 44=some 1:=by kernel_rfl
theorem ag44:aggT Tryz.prog 44=some false:=by kernel_rfl
theorem by44:bytesOf Tryz.prog 44=some 8:=by kernel_rfl
theorem ze44:zeroOf Tryz.prog 44=some (.ptr none):=by kernel_rfl
theorem sz47:szOf Tryz.prog 47=some 1:=by kernel_rfl
theorem ag47:aggT Tryz.prog 47=some false:=by kernel_rfl
theorem by47:bytesOf Tryz.prog 47=some 24:=by kernel_rfl
theorem ze47:zeroOf Tryz.prog 47=some (.slice none 0 0 none):=by kernel_rfl
theorem sz48:szOf Tryz.prog 48=some 1:=by kernel_rfl
theorem ag48:aggT Tryz.prog 48=some false:=by kernel_rfl
theorem by48:bytesOf Tryz.prog 48=some 24:=by kernel_rfl
theorem ze48:zeroOf Tryz.prog 48=some (.slice none 0 0 none):=by kernel_rfl
theorem sz51:szOf Tryz.prog 51=some 13:=by kernel_rfl
theorem ag51:aggT Tryz.prog 51=some true:=by kernel_rfl
theorem by51:bytesOf Tryz.prog 51=some 152:=by kernel_rfl
theorem ze51:zeroOf Tryz.prog 51=some (.agg ([(.int .i64 0),(.int .i64 0),(.int .i64 0),(.int .i64 0),(.int .i64 0),(.int .i64 0),(.int .i64 0),(.int .i64 0),(.ptr none),(.slice none 0 0 none),(.slice none 0 0 none),(.slice none 0 0 none),(.int .i64 0)])):=by kernel_rfl
theorem fa51_0 (b o:Nat):nfieldAddr Tryz.prog 51 (.ptr (some (b,o))) 0=some (.ptr (some (b,o))):=by kernel_rfl
theorem fi51_0 (cs:List NVal):nfield Tryz.prog 51 (.agg cs) 0=some (.agg ((cs.drop 0).take 8)):=by kernel_rfl
theorem fa51_1 (b o:Nat):nfieldAddr Tryz.prog 51 (.ptr (some (b,o))) 1=some (.ptr (some (b,o+8))):=by kernel_rfl
theorem fi51_1 (cs:List NVal):nfield Tryz.prog 51 (.agg cs) 1=cs[8]? :=by kernel_rfl
theorem fa51_2 (b o:Nat):nfieldAddr Tryz.prog 51 (.ptr (some (b,o))) 2=some (.ptr (some (b,o+9))):=by kernel_rfl
theorem fi51_2 (cs:List NVal):nfield Tryz.prog 51 (.agg cs) 2=cs[9]? :=by kernel_rfl
theorem fa51_3 (b o:Nat):nfieldAddr Tryz.prog 51 (.ptr (some (b,o))) 3=some (.ptr (some (b,o+10))):=by kernel_rfl
theorem fi51_3 (cs:List NVal):nfield Tryz.prog 51 (.agg cs) 3=cs[10]? :=by kernel_rfl
theorem fa51_4 (b o:Nat):nfieldAddr Tryz.prog 51 (.ptr (some (b,o))) 4=some (.ptr (some (b,o+11))):=by kernel_rfl
theorem fi51_4 (cs:List NVal):nfield Tryz.prog 51 (.agg cs) 4=cs[11]? :=by kernel_rfl
theorem fa51_5 (b o:Nat):nfieldAddr Tryz.prog 51 (.ptr (some (b,o))) 5=some (.ptr (some (b,o+12))):=by kernel_rfl
theorem fi51_5 (cs:List NVal):nfield Tryz.prog 51 (.agg cs) 5=cs[12]? :=by kernel_rfl
theorem sz52:szOf Tryz.prog 52=some 1:=by kernel_rfl
theorem ag52:aggT Tryz.prog 52=some false:=by kernel_rfl
theorem by52:bytesOf Tryz.prog 52=some 24:=by kernel_rfl
theorem ze52:zeroOf Tryz.prog 52=some (.slice none 0 0 none):=by kernel_rfl
theorem sz55:szOf Tryz.prog 55=some 4:=by kernel_rfl
theorem ag55:aggT Tryz.prog 55=some true:=by kernel_rfl
theorem by55:bytesOf Tryz.prog 55=some 48:=by kernel_rfl
theorem ze55:zeroOf Tryz.prog 55=some (.agg [(.int .i64 0),(.str []),(.str []),(.int .i64 0)]):=by kernel_rfl
theorem fa55_0 (b o:Nat):nfieldAddr Tryz.prog 55 (.ptr (some (b,o))) 0=some (.ptr (some (b,o))):=by kernel_rfl
theorem fi55_0 (cs:List NVal):nfield Tryz.prog 55 (.agg cs) 0=cs[0]? :=by kernel_rfl
theorem fa55_1 (b o:Nat):nfieldAddr Tryz.prog 55 (.ptr (some (b,o))) 1=some (.ptr (some (b,o+1))):=by kernel_rfl
theorem fi55_1 (cs:List NVal):nfield Tryz.prog 55 (.agg cs) 1=cs[1]? :=by kernel_rfl
theorem fa55_2 (b o:Nat):nfieldAddr Tryz.prog 55 (.ptr (some (b,o))) 2=some (.ptr (some (b,o+2))):=by kernel_rfl
theorem fi55_2 (cs:List NVal):nfield Tryz.prog 55 (.agg cs) 2=cs[2]? :=by kernel_rfl
theorem fa55_3 (b o:Nat):nfieldAddr Tryz.prog 55 (.ptr (some (b,o))) 3=some (.ptr (some (b,o+3))):=by kernel_rfl
theorem fi55_3 (cs:List NVal):nfield Tryz.prog 55 (.agg cs) 3=cs[3]? :=by kernel_rfl
theorem sz57:szOf Tryz.prog 57=some 1:=by kernel_rfl
theorem ag57:aggT Tryz.prog 57=some false:=by kernel_rfl
theorem by57:bytesOf Tryz.prog 57=some 8:=by kernel_rfl
theorem ze57:zeroOf Tryz.prog 57=some .nilFunc:=by kernel_rfl
theorem sz63:szOf Tryz.prog 63=some 4:=by kernel_rfl
theorem ag63:aggT Tryz.prog 63=some true:=by kernel_rfl
theorem by63:bytesOf Tryz.prog 63=some 32:=by kernel_rfl
theorem ze63:zeroOf Tryz.prog 63=some (.agg [.nilFunc,.nilFunc,.nilFunc,.nilFunc]):=by kernel_rfl
theorem fa63_0 (b o:Nat):nfieldAddr Tryz.prog 63 (.ptr (some (b,o))) 0=some (.ptr (some (b,o))):=by kernel_rfl
theorem fi63_0 (cs:List NVal):nfield Tryz.prog 63 (.agg cs) 0=cs[0]? :=by kernel_rfl
theorem fa63_1 (b o:Nat):nfieldAddr Tryz.prog 63 (.ptr (some (b,o))) 1=some (.ptr (some (b,o+1))):=by kernel_rfl
theorem fi63_1 (cs:List NVal):nfield Tryz.prog 63 (.agg cs) 1=cs[1]? :=by kernel_rfl
theorem fa63_2 (b o:Nat):nfieldAddr Tryz.prog 63 (.ptr (some (b,o))) 2=some (.ptr (some (b,o+2))):=by kernel_rfl
theorem fi63_2 (cs:List NVal):nfield Tryz.prog 63 (.agg cs) 2=cs[2]? :=by kernel_rfl
theorem fa63_3 (b o:Nat):nfieldAddr Tryz.prog 63 (.ptr (some (b,o))) 3=some (.ptr (some (b,o+3))):=by kernel_rfl
theorem fi63_3 (cs:List NVal):nfield Tryz.prog 63 (.agg cs) 3=cs[3]? :=by kernel_rfl
theorem sz65:szOf Tryz.prog 65=some 9:=by kernel_rfl
theorem ag65:aggT Tryz.prog 65=some true:=by kernel_rfl
theorem by65:bytesOf Tryz.prog 65=some 88:=by kernel_rfl
theorem ze65:zeroOf Tryz.prog 65=some (.agg [(.slice none 0 0 none),(.int .i64 0),(.bool false),.nilFunc,.nilFunc,.nilFunc,.nilFunc,(.int .i64 0),(.int .i64 0)]):=by kernel_rfl
theorem fa65_0 (b o:Nat):nfieldAddr Tryz.prog 65 (.ptr (some (b,o))) 0=some (.ptr (some (b,o))):=by kernel_rfl
theorem fi65_0 (cs:List NVal):nfield Tryz.prog 65 (.agg cs) 0=cs[0]? :=by kernel_rfl
theorem fa65_1 (b o:Nat):nfieldAddr Tryz.prog 65 (.ptr (some (b,o))) 1=some (.ptr (some (b,o+1))):=by kernel_rfl
theorem fi65_1 (cs:List NVal):nfield Tryz.prog 65 (.agg cs) 1=cs[1]? :=by kernel_rfl
theorem fa65_2 (b o:Nat):nfieldAddr Tryz.prog 65 (.ptr (some (b,o))) 2=some (.ptr (some (b,o+2))):=by kernel_rfl
theorem fi65_2 (cs:List NVal):nfield Tryz.prog 65 (.agg cs) 2=cs[2]? :=by kernel_rfl
theorem fa65_3 (b o:Nat):nfieldAddr Tryz.prog 65 (.ptr (some (b,o))) 3=some (.ptr (some (b,o+3))):=by kernel_rfl
theorem fi65_3 (cs:List NVal):nfield Tryz.prog 65 (.agg cs) 3=some (.agg ((cs.drop 3).take 4)):=by kernel_rfl
theorem fa65_4 (b o:Nat):nfieldAddr Tryz.prog 65 (.ptr (some (b,o))) 4=some (.ptr (some (b,o+7))):=by kernel_rfl
theorem fi65_4 (cs:List NVal):nfield Tryz.prog 65 (.agg cs) 4=cs[7]? :=by kernel_rfl
theorem fa65_5 (b o:Nat):nfieldAddr Tryz.prog 65 (.ptr (some (b,o))) 5=some (.ptr (some (b,o+8))):=by kernel_rfl
theorem fi65_5 (cs:List NVal):nfield Tryz.prog 65 (.agg cs) 5=cs[8]? :=by kernel_rfl
theorem sz67:szOf Tryz.prog 67=some 1:=by kernel_rfl
theorem ag67:aggT Tryz.prog 67=some false:=by kernel_rfl
theorem by67:bytesOf Tryz.prog 67=some 8:=by kernel_rfl
theorem ze67:zeroOf Tryz.prog 67=some (.ptr none):=by kernel_rfl
theorem sz70:szOf Tryz.prog 70=some 5:=by kernel_rfl
theorem ag70:aggT Tryz.prog 70=some true:=by kernel_rfl
theorem by70:bytesOf Tryz.prog 70=some 64:=by kernel_rfl
theorem ze70:zeroOf Tryz.prog 70=some (.agg [(.ptr none),(.slice none 0 0 none),(.str []),(.int .i64 0),(.bool false)]):=by kernel_rfl
theorem fa70_0 (b o:Nat):nfieldAddr Tryz.prog 70 (.ptr (some (b,o))) 0=some (.ptr (some (b,o))):=by kernel_rfl
theorem fi70_0 (cs:List NVal):nfield Tryz.prog 70 (.agg cs) 0=cs[0]? :=by kernel_rfl
theorem fa70_1 (b o:Nat):nfieldAddr Tryz.prog 70 (.ptr (some (b,o))) 1=some (.ptr (some (b,o+1))):=by kernel_rfl
theorem fi70_1 (cs:List NVal):nfield Tryz.prog 70 (.agg cs) 1=some (.agg ((cs.drop 1).take 4)):=by kernel_rfl
theorem sz76:szOf Tryz.prog 76=some 2:=by kernel_rfl
theorem ag76:aggT Tryz.prog 76=some true:=by kernel_rfl
theorem by76:bytesOf Tryz.prog 76=some 24:=by kernel_rfl
theorem ze76:zeroOf Tryz.prog 76=some (.agg [(.str []),(.int .i64 0)]):=by kernel_rfl
theorem fa76_0 (b o:Nat):nfieldAddr Tryz.prog 76 (.ptr (some (b,o))) 0=some (.ptr (some (b,o))):=by kernel_rfl
theorem fi76_0 (cs:List NVal):nfield Tryz.prog 76 (.agg cs) 0=cs[0]? :=by kernel_rfl
theorem fa76_1 (b o:Nat):nfieldAddr Tryz.prog 76 (.ptr (some (b,o))) 1=some (.ptr (some (b,o+1))):=by kernel_rfl
theorem fi76_1 (cs:List NVal):nfield Tryz.prog 76 (.agg cs) 1=cs[1]? :=by kernel_rfl
theorem sz77:szOf Tryz.prog 77=some 1:=by kernel_rfl
theorem ag77:aggT Tryz.prog 77=some false:=by kernel_rfl
theorem by77:bytesOf Tryz.prog 77=some 24:=by kernel_rfl
theorem ze77:zeroOf Tryz.prog 77=some (.slice none 0 0 none):=by kernel_rfl
theorem sz83:szOf Tryz.prog 83=some 1:=by kernel_rfl
theorem ag83:aggT Tryz.prog 83=some false:=by kernel_rfl
theorem by83:bytesOf Tryz.prog 83=some 8:=by kernel_rfl
theorem ze83:zeroOf Tryz.prog 83=some (.ptr none):=by kernel_rfl
theorem sz85:szOf Tryz.prog 85=some 2:=by kernel_rfl
theorem ag85:aggT Tryz.prog 85=some true:=by kernel_rfl
theorem by85:bytesOf Tryz.prog 85=some 32:=by kernel_rfl
theorem ze85:zeroOf Tryz.prog 85=some (.agg [(.ptr none),(.slice none 0 0 none)]):=by kernel_rfl
theorem fa85_0 (b o:Nat):nfieldAddr Tryz.prog 85 (.ptr (some (b,o))) 0=some (.ptr (some (b,o))):=by kernel_rfl
theorem fi85_0 (cs:List NVal):nfield Tryz.prog 85 (.agg cs) 0=cs[0]? :=by kernel_rfl
theorem fa85_1 (b o:Nat):nfieldAddr Tryz.prog 85 (.ptr (some (b,o))) 1=some (.ptr (some (b,o+1))):=by kernel_rfl
theorem fi85_1 (cs:List NVal):nfield Tryz.prog 85 (.agg cs) 1=cs[1]? :=by kernel_rfl
theorem sz88:szOf Tryz.prog 88=some 4:=by kernel_rfl
theorem ag88:aggT Tryz.prog 88=some true:=by kernel_rfl
theorem by88:bytesOf Tryz.prog 88=some 48:=by kernel_rfl
theorem ze88:zeroOf Tryz.prog 88=some (.agg [(.int .i64 0),(.bool false),(.int .i64 0),(.slice none 0 0 none)]):=by kernel_rfl
theorem fa88_0 (b o:Nat):nfieldAddr Tryz.prog 88 (.ptr (some (b,o))) 0=some (.ptr (some (b,o))):=by kernel_rfl
theorem fi88_0 (cs:List NVal):nfield Tryz.prog 88 (.agg cs) 0=cs[0]? :=by kernel_rfl
theorem fa88_1 (b o:Nat):nfieldAddr Tryz.prog 88 (.ptr (some (b,o))) 1=some (.ptr (some (b,o+1))):=by kernel_rfl
theorem fi88_1 (cs:List NVal):nfield Tryz.prog 88 (.agg cs) 1=cs[1]? :=by kernel_rfl
theorem fa88_2 (b o:Nat):nfieldAddr Tryz.prog 88 (.ptr (some (b,o))) 2=some (.ptr (some (b,o+2))):=by kernel_rfl
theorem fi88_2 (cs:List NVal):nfield Tryz.prog 88 (.agg cs) 2=cs[2]? :=by kernel_rfl
theorem fa88_3 (b o:Nat):nfieldAddr Tryz.prog 88 (.ptr (some (b,o))) 3=some (.ptr (some (b,o+3))):=by kernel_rfl
theorem fi88_3 (cs:List NVal):nfield Tryz.prog 88 (.agg cs) 3=cs[3]? :=by kernel_rfl
theorem sz90:szOf Tryz.prog 90=some 10:=by kernel_rfl
theorem ag90:aggT Tryz.prog 90=some true:=by kernel_rfl
theorem by90:bytesOf Tryz.prog 90=some 112:=by kernel_rfl
theorem ze90:zeroOf Tryz.prog 90=some (.agg [(.int .i64 0),(.int .i64 0),(.int .i64 0),(.str []),(.str []),(.int .i64 0),(.int .i64 0),(.bool false),(.int .i64 0),(.slice none 0 0 none)]):=by kernel_rfl
theorem fa90_0 (b o:Nat):nfieldAddr Tryz.prog 90 (.ptr (some (b,o))) 0=some (.ptr (some (b,o))):=by kernel_rfl
theorem fi90_0 (cs:List NVal):nfield Tryz.prog 90 (.agg cs) 0=cs[0]? :=by kernel_rfl
theorem fa90_1 (b o:Nat):nfieldAddr Tryz.prog 90 (.ptr (some (b,o))) 1=some (.ptr (some (b,o+1))):=by kernel_rfl
theorem fi90_1 (cs:List NVal):nfield Tryz.prog 90 (.agg cs) 1=cs[1]? :=by kernel_rfl
theorem fa90_2 (b o:Nat):nfieldAddr Tryz.prog 90 (.ptr (some (b,o))) 2=some (.ptr (some (b,o+2))):=by kernel_rfl
theorem fi90_2 (cs:List NVal):nfield Tryz.prog 90 (.agg cs) 2=some (.agg ((cs.drop 2).take 4)):=by kernel_rfl
theorem fa90_3 (b o:Nat):nfieldAddr Tryz.prog 90 (.ptr (some (b,o))) 3=some (.ptr (some (b,o+6))):=by kernel_rfl
theorem fi90_3 (cs:List NVal):nfield Tryz.prog 90 (.agg cs) 3=some (.agg ((cs.drop 6).take 4)):=by kernel_rfl
theorem sz98:szOf Tryz.prog 98=some 1:=by kernel_rfl
theorem ag98:aggT Tryz.prog 98=some false:=by kernel_rfl
theorem by98:bytesOf Tryz.prog 98=some 8:=by kernel_rfl
theorem ze98:zeroOf Tryz.prog 98=some (.ptr none):=by kernel_rfl
theorem sz101:szOf Tryz.prog 101=some 1:=by kernel_rfl
theorem ag101:aggT Tryz.prog 101=some false:=by kernel_rfl
theorem by101:bytesOf Tryz.prog 101=some 8:=by kernel_rfl
theorem ze101:zeroOf Tryz.prog 101=some (.ptr none):=by kernel_rfl
theorem sz106:szOf Tryz.prog 106=some 1:=by kernel_rfl
theorem ag106:aggT Tryz.prog 106=some false:=by kernel_rfl
theorem by106:bytesOf Tryz.prog 106=some 24:=by kernel_rfl
theorem ze106:zeroOf Tryz.prog 106=some (.slice none 0 0 none):=by kernel_rfl
theorem sz108:szOf Tryz.prog 108=some 1:=by kernel_rfl
theorem ag108:aggT Tryz.prog 108=some false:=by kernel_rfl
theorem by108:bytesOf Tryz.prog 108=some 8:=by kernel_rfl
theorem ze108:zeroOf Tryz.prog 108=some (.int .u64 0):=by kernel_rfl
theorem sz110:szOf Tryz.prog 110=some 5:=by kernel_rfl
theorem ag110:aggT Tryz.prog 110=some true:=by kernel_rfl
theorem by110:bytesOf Tryz.prog 110=some 80:=by kernel_rfl
theorem ze110:zeroOf Tryz.prog 110=some (.agg [(.int .i64 0),(.int .u64 0),(.str []),(.slice none 0 0 none),(.slice none 0 0 none)]):=by kernel_rfl
theorem fa110_0 (b o:Nat):nfieldAddr Tryz.prog 110 (.ptr (some (b,o))) 0=some (.ptr (some (b,o))):=by kernel_rfl
theorem fi110_0 (cs:List NVal):nfield Tryz.prog 110 (.agg cs) 0=cs[0]? :=by kernel_rfl
theorem fa110_1 (b o:Nat):nfieldAddr Tryz.prog 110 (.ptr (some (b,o))) 1=some (.ptr (some (b,o+1))):=by kernel_rfl
theorem fi110_1 (cs:List NVal):nfield Tryz.prog 110 (.agg cs) 1=cs[1]? :=by kernel_rfl
theorem fa110_2 (b o:Nat):nfieldAddr Tryz.prog 110 (.ptr (some (b,o))) 2=some (.ptr (some (b,o+2))):=by kernel_rfl
theorem fi110_2 (cs:List NVal):nfield Tryz.prog 110 (.agg cs) 2=cs[2]? :=by kernel_rfl
theorem fa110_3 (b o:Nat):nfieldAddr Tryz.prog 110 (.ptr (some (b,o))) 3=some (.ptr (some (b,o+3))):=by kernel_rfl
theorem fi110_3 (cs:List NVal):nfield Tryz.prog 110 (.agg cs) 3=cs[3]? :=by kernel_rfl
theorem fa110_4 (b o:Nat):nfieldAddr Tryz.prog 110 (.ptr (some (b,o))) 4=some (.ptr (some (b,o+4))):=by kernel_rfl
theorem fi110_4 (cs:List NVal):nfield Tryz.prog 110 (.agg cs) 4=cs[4]? :=by kernel_rfl
theorem sz112:szOf Tryz.prog 112=some 5:=by kernel_rfl
theorem ag112:aggT Tryz.prog 112=some true:=by kernel_rfl
theorem by112:bytesOf Tryz.prog 112=some 40:=by kernel_rfl
theorem ze112:zeroOf Tryz.prog 112=some (.agg [(.ptr none),(.ptr none),(.int .i64 0),(.int .i64 0),(.int .i64 0)]):=by kernel_rfl
theorem fa112_0 (b o:Nat):nfieldAddr Tryz.prog 112 (.ptr (some (b,o))) 0=some (.ptr (some (b,o))):=by kernel_rfl
theorem fi112_0 (cs:List NVal):nfield Tryz.prog 112 (.agg cs) 0=cs[0]? :=by kernel_rfl
theorem fa112_1 (b o:Nat):nfieldAddr Tryz.prog 112 (.ptr (some (b,o))) 1=some (.ptr (some (b,o+1))):=by kernel_rfl
theorem fi112_1 (cs:List NVal):nfield Tryz.prog 112 (.agg cs) 1=cs[1]? :=by kernel_rfl
theorem fa112_2 (b o:Nat):nfieldAddr Tryz.prog 112 (.ptr (some (b,o))) 2=some (.ptr (some (b,o+2))):=by kernel_rfl
theorem fi112_2 (cs:List NVal):nfield Tryz.prog 112 (.agg cs) 2=cs[2]? :=by kernel_rfl
theorem fa112_3 (b o:Nat):nfieldAddr Tryz.prog 112 (.ptr (some (b,o))) 3=some (.ptr (some (b,o+3))):=by kernel_rfl
theorem fi112_3 (cs:List NVal):nfield Tryz.prog 112 (.agg cs) 3=cs[3]? :=by kernel_rfl
theorem fa112_4 (b o:Nat):nfieldAddr Tryz.prog 112 (.ptr (some (b,o))) 4=some (.ptr (some (b,o+4))):=by kernel_rfl
theorem fi112_4 (cs:List NVal):nfield Tryz.prog 112 (.agg cs) 4=cs[4]? :=by kernel_rfl
theorem sz117:szOf Tryz.prog 117=some 4:=by kernel_rfl
theorem ag117:aggT Tryz.prog 117=some true:=by kernel_rfl
theorem by117:bytesOf Tryz.prog 117=some 48:=by kernel_rfl
theorem ze117:zeroOf Tryz.prog 117=some (.agg [(.int .i64 0),(.int .i64 0),(.bool false),(.slice none 0 0 none)]):=by kernel_rfl
theorem fa117_0 (b o:Nat):nfieldAddr Tryz.prog 117 (.ptr (some (b,o))) 0=some (.ptr (some (b,o))):=by kernel_rfl
theorem fi117_0 (cs:List NVal):nfield Tryz.prog 117 (.agg cs) 0=cs[0]? :=by kernel_rfl
theorem fa117_1 (b o:Nat):nfieldAddr Tryz.prog 117 (.ptr (some (b,o))) 1=some (.ptr (some (b,o+1))):=by kernel_rfl
theorem fi117_1 (cs:List NVal):nfield Tryz.prog 117 (.agg cs) 1=cs[1]? :=by kernel_rfl
theorem fa117_2 (b o:Nat):nfieldAddr Tryz.prog 117 (.ptr (some (b,o))) 2=some (.ptr (some (b,o+2))):=by kernel_rfl
theorem fi117_2 (cs:List NVal):nfield Tryz.prog 117 (.agg cs) 2=cs[2]? :=by kernel_rfl
theorem fa117_3 (b o:Nat):nfieldAddr Tryz.prog 117 (.ptr (some (b,o))) 3=some (.ptr (some (b,o+3))):=by kernel_rfl
theorem fi117_3 (cs:List NVal):nfield Tryz.prog 117 (.agg cs) 3=cs[3]? :=by kernel_rfl
theorem sz120:szOf Tryz.prog 120=some 6:=by kernel_rfl
theorem ag120:aggT Tryz.prog 120=some true:=by kernel_rfl
theorem by120:bytesOf Tryz.prog 120=some 64:=by kernel_rfl
theorem ze120:zeroOf Tryz.prog 120=some (.agg [(.int .i64 0),(.int .i64 0),(.int .i64 0),(.int .i64 0),(.int .u64 0),(.slice none 0 0 none)]):=by kernel_rfl
theorem fa120_0 (b o:Nat):nfieldAddr Tryz.prog 120 (.ptr (some (b,o))) 0=some (.ptr (some (b,o))):=by kernel_rfl
theorem fi120_0 (cs:List NVal):nfield Tryz.prog 120 (.agg cs) 0=cs[0]? :=by kernel_rfl
theorem fa120_1 (b o:Nat):nfieldAddr Tryz.prog 120 (.ptr (some (b,o))) 1=some (.ptr (some (b,o+1))):=by kernel_rfl
theorem fi120_1 (cs:List NVal):nfield Tryz.prog 120 (.agg cs) 1=cs[1]? :=by kernel_rfl
theorem fa120_2 (b o:Nat):nfieldAddr Tryz.prog 120 (.ptr (some (b,o))) 2=some (.ptr (some (b,o+2))):=by kernel_rfl
theorem fi120_2 (cs:List NVal):nfield Tryz.prog 120 (.agg cs) 2=cs[2]? :=by kernel_rfl
theorem fa120_3 (b o:Nat):nfieldAddr Tryz.prog 120 (.ptr (some (b,o))) 3=some (.ptr (some (b,o+3))):=by kernel_rfl
theorem fi120_3 (cs:List NVal):nfield Tryz.prog 120 (.agg cs) 3=cs[3]? :=by kernel_rfl
theorem fa120_4 (b o:Nat):nfieldAddr Tryz.prog 120 (.ptr (some (b,o))) 4=some (.ptr (some (b,o+4))):=by kernel_rfl
theorem fi120_4 (cs:List NVal):nfield Tryz.prog 120 (.agg cs) 4=cs[4]? :=by kernel_rfl
theorem fa120_5 (b o:Nat):nfieldAddr Tryz.prog 120 (.ptr (some (b,o))) 5=some (.ptr (some (b,o+5))):=by kernel_rfl
theorem fi120_5 (cs:List NVal):nfield Tryz.prog 120 (.agg cs) 5=cs[5]? :=by kernel_rfl
theorem sz136:szOf Tryz.prog 136=some 1:=by kernel_rfl
theorem ag136:aggT Tryz.prog 136=some false:=by kernel_rfl
theorem by136:bytesOf Tryz.prog 136=some 8:=by kernel_rfl
theorem ze136:zeroOf Tryz.prog 136=some (.ptr none):=by kernel_rfl
theorem sz137:szOf Tryz.prog 137=some 1:=by kernel_rfl
theorem ag137:aggT Tryz.prog 137=some false:=by kernel_rfl
theorem by137:bytesOf Tryz.prog 137=some 8:=by kernel_rfl
theorem ze137:zeroOf Tryz.prog 137=some (.int .u64 0):=by kernel_rfl
theorem sz138:szOf Tryz.prog 138=some 1:=by kernel_rfl
theorem ag138:aggT Tryz.prog 138=some false:=by kernel_rfl
theorem by138:bytesOf Tryz.prog 138=some 24:=by kernel_rfl
theorem ze138:zeroOf Tryz.prog 138=some (.slice none 0 0 none):=by kernel_rfl
theorem sz139:szOf Tryz.prog 139=some 1:=by kernel_rfl
theorem ag139:aggT Tryz.prog 139=some false:=by kernel_rfl
theorem by139:bytesOf Tryz.prog 139=some 8:=by kernel_rfl
theorem ze139:zeroOf Tryz.prog 139=some (.ptr none):=by kernel_rfl
theorem sz140:szOf Tryz.prog 140=some 5:=by kernel_rfl
theorem ag140:aggT Tryz.prog 140=some true:=by kernel_rfl
theorem by140:bytesOf Tryz.prog 140=some 40:=by kernel_rfl
theorem ze140:zeroOf Tryz.prog 140=some (.agg [(.ptr none),(.ptr none),(.ptr none),(.ptr none),(.ptr none)]):=by kernel_rfl
theorem sz142:szOf Tryz.prog 142=some 6:=by kernel_rfl
theorem ag142:aggT Tryz.prog 142=some true:=by kernel_rfl
theorem by142:bytesOf Tryz.prog 142=some 64:=by kernel_rfl
theorem ze142:zeroOf Tryz.prog 142=some (.agg [(.slice none 0 0 none),(.ptr none),(.ptr none),(.ptr none),(.ptr none),(.ptr none)]):=by kernel_rfl
theorem fa142_0 (b o:Nat):nfieldAddr Tryz.prog 142 (.ptr (some (b,o))) 0=some (.ptr (some (b,o))):=by kernel_rfl
theorem fi142_0 (cs:List NVal):nfield Tryz.prog 142 (.agg cs) 0=cs[0]? :=by kernel_rfl
theorem fa142_1 (b o:Nat):nfieldAddr Tryz.prog 142 (.ptr (some (b,o))) 1=some (.ptr (some (b,o+1))):=by kernel_rfl
theorem fi142_1 (cs:List NVal):nfield Tryz.prog 142 (.agg cs) 1=some (.agg ((cs.drop 1).take 5)):=by kernel_rfl
theorem sz147:szOf Tryz.prog 147=some 4:=by kernel_rfl
theorem ag147:aggT Tryz.prog 147=some true:=by kernel_rfl
theorem by147:bytesOf Tryz.prog 147=some 48:=by kernel_rfl
theorem ze147:zeroOf Tryz.prog 147=some (.agg [(.int .i64 0),(.int .i64 0),(.bool false),(.slice none 0 0 none)]):=by kernel_rfl
theorem fa147_0 (b o:Nat):nfieldAddr Tryz.prog 147 (.ptr (some (b,o))) 0=some (.ptr (some (b,o))):=by kernel_rfl
theorem fi147_0 (cs:List NVal):nfield Tryz.prog 147 (.agg cs) 0=cs[0]? :=by kernel_rfl
theorem fa147_1 (b o:Nat):nfieldAddr Tryz.prog 147 (.ptr (some (b,o))) 1=some (.ptr (some (b,o+1))):=by kernel_rfl
theorem fi147_1 (cs:List NVal):nfield Tryz.prog 147 (.agg cs) 1=cs[1]? :=by kernel_rfl
theorem fa147_2 (b o:Nat):nfieldAddr Tryz.prog 147 (.ptr (some (b,o))) 2=some (.ptr (some (b,o+2))):=by kernel_rfl
theorem fi147_2 (cs:List NVal):nfield Tryz.prog 147 (.agg cs) 2=cs[2]? :=by kernel_rfl
theorem fa147_3 (b o:Nat):nfieldAddr Tryz.prog 147 (.ptr (some (b,o))) 3=some (.ptr (some (b,o+3))):=by kernel_rfl
theorem fi147_3 (cs:List NVal):nfield Tryz.prog 147 (.agg cs) 3=cs[3]? :=by kernel_rfl
theorem sz148:szOf Tryz.prog 148=some 1:=by kernel_rfl
theorem ag148:aggT Tryz.prog 148=some false:=by kernel_rfl
theorem by148:bytesOf Tryz.prog 148=some 24:=by kernel_rfl
theorem ze148:zeroOf Tryz.prog 148=some (.slice none 0 0 none):=by kernel_rfl
theorem sz150:szOf Tryz.prog 150=some 3:=by kernel_rfl
theorem ag150:aggT Tryz.prog 150=some true:=by kernel_rfl
theorem by150:bytesOf Tryz.prog 150=some 40:=by kernel_rfl
theorem ze150:zeroOf Tryz.prog 150=some (.agg [(.int .i64 0),(.int .i64 0),(.slice none 0 0 none)]):=by kernel_rfl
theorem fa150_0 (b o:Nat):nfieldAddr Tryz.prog 150 (.ptr (some (b,o))) 0=some (.ptr (some (b,o))):=by kernel_rfl
theorem fi150_0 (cs:List NVal):nfield Tryz.prog 150 (.agg cs) 0=cs[0]? :=by kernel_rfl
theorem fa150_1 (b o:Nat):nfieldAddr Tryz.prog 150 (.ptr (some (b,o))) 1=some (.ptr (some (b,o+1))):=by kernel_rfl
theorem fi150_1 (cs:List NVal):nfield Tryz.prog 150 (.agg cs) 1=cs[1]? :=by kernel_rfl
theorem fa150_2 (b o:Nat):nfieldAddr Tryz.prog 150 (.ptr (some (b,o))) 2=some (.ptr (some (b,o+2))):=by kernel_rfl
theorem fi150_2 (cs:List NVal):nfield Tryz.prog 150 (.agg cs) 2=cs[2]? :=by kernel_rfl
theorem sz151:szOf Tryz.prog 151=some 1:=by kernel_rfl
theorem ag151:aggT Tryz.prog 151=some false:=by kernel_rfl
theorem by151:bytesOf Tryz.prog 151=some 24:=by kernel_rfl
theorem ze151:zeroOf Tryz.prog 151=some (.slice none 0 0 none):=by kernel_rfl
theorem sz153:szOf Tryz.prog 153=some 2:=by kernel_rfl
theorem ag153:aggT Tryz.prog 153=some true:=by kernel_rfl
theorem by153:bytesOf Tryz.prog 153=some 32:=by kernel_rfl
theorem ze153:zeroOf Tryz.prog 153=some (.agg [(.int .i64 0),(.slice none 0 0 none)]):=by kernel_rfl
theorem fa153_0 (b o:Nat):nfieldAddr Tryz.prog 153 (.ptr (some (b,o))) 0=some (.ptr (some (b,o))):=by kernel_rfl
theorem fi153_0 (cs:List NVal):nfield Tryz.prog 153 (.agg cs) 0=cs[0]? :=by kernel_rfl
theorem fa153_1 (b o:Nat):nfieldAddr Tryz.prog 153 (.ptr (some (b,o))) 1=some (.ptr (some (b,o+1))):=by kernel_rfl
theorem fi153_1 (cs:List NVal):nfield Tryz.prog 153 (.agg cs) 1=cs[1]? :=by kernel_rfl
theorem sz157:szOf Tryz.prog 157=some 1:=by kernel_rfl
theorem ag157:aggT Tryz.prog 157=some false:=by kernel_rfl
theorem by157:bytesOf Tryz.prog 157=some 8:=by kernel_rfl
theorem ze157:zeroOf Tryz.prog 157=some (.ptr none):=by kernel_rfl
theorem sz163:szOf Tryz.prog 163=some 1:=by kernel_rfl
theorem ag163:aggT Tryz.prog 163=some false:=by kernel_rfl
theorem by163:bytesOf Tryz.prog 163=some 8:=by kernel_rfl
theorem ze163:zeroOf Tryz.prog 163=some (.ptr none):=by kernel_rfl
theorem sz166:szOf Tryz.prog 166=some 1:=by kernel_rfl
theorem ag166:aggT Tryz.prog 166=some false:=by kernel_rfl
theorem by166:bytesOf Tryz.prog 166=some 8:=by kernel_rfl
theorem ze166:zeroOf Tryz.prog 166=some (.ptr none):=by kernel_rfl
theorem sz169:szOf Tryz.prog 169=some 1:=by kernel_rfl
theorem ag169:aggT Tryz.prog 169=some false:=by kernel_rfl
theorem by169:bytesOf Tryz.prog 169=some 8:=by kernel_rfl
theorem ze169:zeroOf Tryz.prog 169=some (.ptr none):=by kernel_rfl
theorem sz172:szOf Tryz.prog 172=some 1:=by kernel_rfl
theorem ag172:aggT Tryz.prog 172=some false:=by kernel_rfl
theorem by172:bytesOf Tryz.prog 172=some 8:=by kernel_rfl
theorem ze172:zeroOf Tryz.prog 172=some (.ptr none):=by kernel_rfl
theorem sz175:szOf Tryz.prog 175=some 1:=by kernel_rfl
theorem ag175:aggT Tryz.prog 175=some false:=by kernel_rfl
theorem by175:bytesOf Tryz.prog 175=some 8:=by kernel_rfl
theorem ze175:zeroOf Tryz.prog 175=some (.ptr none):=by kernel_rfl
theorem sz200:szOf Tryz.prog 200=some 1:=by kernel_rfl
theorem ag200:aggT Tryz.prog 200=some false:=by kernel_rfl
theorem by200:bytesOf Tryz.prog 200=some 8:=by kernel_rfl
theorem ze200:zeroOf Tryz.prog 200=some (.ptr none):=by kernel_rfl
theorem sz202:szOf Tryz.prog 202=some 1:=by kernel_rfl
theorem ag202:aggT Tryz.prog 202=some false:=by kernel_rfl
theorem by202:bytesOf Tryz.prog 202=some 8:=by kernel_rfl
theorem ze202:zeroOf Tryz.prog 202=some (.map none):=by kernel_rfl
theorem sz203:szOf Tryz.prog 203=some 1:=by kernel_rfl
theorem ag203:aggT Tryz.prog 203=some false:=by kernel_rfl
theorem by203:bytesOf Tryz.prog 203=some 24:=by kernel_rfl
theorem ze203:zeroOf Tryz.prog 203=some (.slice none 0 0 none):=by kernel_rfl
theorem sz205:szOf Tryz.prog 205=some 3:=by kernel_rfl
theorem ag205:aggT Tryz.prog 205=some true:=by kernel_rfl
theorem by205:bytesOf Tryz.prog 205=some 40:=by kernel_rfl
theorem ze205:zeroOf Tryz.prog 205=some (.agg [(.int .i64 0),(.slice none 0 0 none),(.map none)]):=by kernel_rfl
theorem fa205_0 (b o:Nat):nfieldAddr Tryz.prog 205 (.ptr (some (b,o))) 0=some (.ptr (some (b,o))):=by kernel_rfl
theorem fi205_0 (cs:List NVal):nfield Tryz.prog 205 (.agg cs) 0=cs[0]? :=by kernel_rfl
theorem fa205_1 (b o:Nat):nfieldAddr Tryz.prog 205 (.ptr (some (b,o))) 1=some (.ptr (some (b,o+1))):=by kernel_rfl
theorem fi205_1 (cs:List NVal):nfield Tryz.prog 205 (.agg cs) 1=cs[1]? :=by kernel_rfl
theorem fa205_2 (b o:Nat):nfieldAddr Tryz.prog 205 (.ptr (some (b,o))) 2=some (.ptr (some (b,o+2))):=by kernel_rfl
theorem fi205_2 (cs:List NVal):nfield Tryz.prog 205 (.agg cs) 2=cs[2]? :=by kernel_rfl
theorem sz206:szOf Tryz.prog 206=some 0:=by kernel_rfl
theorem ag206:aggT Tryz.prog 206=some true:=by kernel_rfl
theorem by206:bytesOf Tryz.prog 206=some 0:=by kernel_rfl
theorem ze206:zeroOf Tryz.prog 206=some (.agg []):=by kernel_rfl
theorem sz208:szOf Tryz.prog 208=some 1:=by kernel_rfl
theorem ag208:aggT Tryz.prog 208=some false:=by kernel_rfl
theorem by208:bytesOf Tryz.prog 208=some 8:=by kernel_rfl
theorem ze208:zeroOf Tryz.prog 208=some (.ptr none):=by kernel_rfl
theorem sz212:szOf Tryz.prog 212=some 1:=by kernel_rfl
theorem ag212:aggT Tryz.prog 212=some false:=by kernel_rfl
theorem by212:bytesOf Tryz.prog 212=some 8:=by kernel_rfl
theorem ze212:zeroOf Tryz.prog 212=some .nilFunc:=by kernel_rfl
theorem sz214:szOf Tryz.prog 214=some 17:=by kernel_rfl
theorem ag214:aggT Tryz.prog 214=some true:=by kernel_rfl
theorem by214:bytesOf Tryz.prog 214=some 176:=by kernel_rfl
theorem ze214:zeroOf Tryz.prog 214=some (.agg [(.str []),(.str []),(.int .i64 0),(.int .i64 0),(.int .i64 0),(.int .i64 0),(.int .i64 0),(.int .u64 0),(.slice none 0 0 none),.nilFunc,(.int .i64 0),(.bool false),(.bool false),(.int .i64 0),(.bool false),(.int .i64 0),(.slice none 0 0 none)]):=by kernel_rfl
theorem fa214_0 (b o:Nat):nfieldAddr Tryz.prog 214 (.ptr (some (b,o))) 0=some (.ptr (some (b,o))):=by kernel_rfl
theorem fi214_0 (cs:List NVal):nfield Tryz.prog 214 (.agg cs) 0=cs[0]? :=by kernel_rfl
theorem fa214_1 (b o:Nat):nfieldAddr Tryz.prog 214 (.ptr (some (b,o))) 1=some (.ptr (some (b,o+1))):=by kernel_rfl
theorem fi214_1 (cs:List NVal):nfield Tryz.prog 214 (.agg cs) 1=cs[1]? :=by kernel_rfl
theorem fa214_2 (b o:Nat):nfieldAddr Tryz.prog 214 (.ptr (some (b,o))) 2=some (.ptr (some (b,o+2))):=by kernel_rfl
theorem fi214_2 (cs:List NVal):nfield Tryz.prog 214 (.agg cs) 2=cs[2]? :=by kernel_rfl
theorem fa214_3 (b o:Nat):nfieldAddr Tryz.prog 214 (.ptr (some (b,o))) 3=some (.ptr (some (b,o+3))):=by kernel_rfl
theorem fi214_3 (cs:List NVal):nfield Tryz.prog 214 (.agg cs) 3=some (.agg ((cs.drop 3).take 6)):=by kernel_rfl
theorem fa214_4 (b o:Nat):nfieldAddr Tryz.prog 214 (.ptr (some (b,o))) 4=some (.ptr (some (b,o+9))):=by kernel_rfl
theorem fi214_4 (cs:List NVal):nfield Tryz.prog 214 (.agg cs) 4=cs[9]? :=by kernel_rfl
theorem fa214_5 (b o:Nat):nfieldAddr Tryz.prog 214 (.ptr (some (b,o))) 5=some (.ptr (some (b,o+10))):=by kernel_rfl
theorem fi214_5 (cs:List NVal):nfield Tryz.prog 214 (.agg cs) 5=cs[10]? :=by kernel_rfl
theorem fa214_6 (b o:Nat):nfieldAddr Tryz.prog 214 (.ptr (some (b,o))) 6=some (.ptr (some (b,o+11))):=by kernel_rfl
theorem fi214_6 (cs:List NVal):nfield Tryz.prog 214 (.agg cs) 6=cs[11]? :=by kernel_rfl
theorem fa214_7 (b o:Nat):nfieldAddr Tryz.prog 214 (.ptr (some (b,o))) 7=some (.ptr (some (b,o+12))):=by kernel_rfl
theorem fi214_7 (cs:List NVal):nfield Tryz.prog 214 (.agg cs) 7=cs[12]? :=by kernel_rfl
theorem fa214_8 (b o:Nat):nfieldAddr Tryz.prog 214 (.ptr (some (b,o))) 8=some (.ptr (some (b,o+13))):=by kernel_rfl
theorem fi214_8 (cs:List NVal):nfield Tryz.prog 214 (.agg cs) 8=some (.agg ((cs.drop 13).take 4)):=by kernel_rfl
theorem sz216:szOf Tryz.prog 216=some 1:=by kernel_rfl
theorem ag216:aggT Tryz.prog 216=some false:=by kernel_rfl
theorem by216:bytesOf Tryz.prog 216=some 8:=by kernel_rfl
theorem ze216:zeroOf Tryz.prog 216=some .nilFunc:=by kernel_rfl
theorem sz219:szOf Tryz.prog 219=some 18:=by kernel_rfl
theorem ag219:aggT Tryz.prog 219=some true:=by kernel_rfl
theorem by219:bytesOf Tryz.prog 219=some 216:=by kernel_rfl
theorem ze219:zeroOf Tryz.prog 219=some (.agg ([(.str []),(.str []),(.int .i64 0),(.int .i64 0),(.int .i64 0),(.int .i64 0),(.int .i64 0),(.int .i64 0),(.int .u64 0),(.slice none 0 0 none),.nilFunc,(.str []),(.slice none 0 0 none),(.bool false),(.int .i64 0),(.bool false),(.int .i64 0),(.slice none 0 0 none)])):=by kernel_rfl
theorem fa219_0 (b o:Nat):nfieldAddr Tryz.prog 219 (.ptr (some (b,o))) 0=some (.ptr (some (b,o))):=by kernel_rfl
theorem fi219_0 (cs:List NVal):nfield Tryz.prog 219 (.agg cs) 0=cs[0]? :=by kernel_rfl
theorem fa219_1 (b o:Nat):nfieldAddr Tryz.prog 219 (.ptr (some (b,o))) 1=some (.ptr (some (b,o+1))):=by kernel_rfl
theorem fi219_1 (cs:List NVal):nfield Tryz.prog 219 (.agg cs) 1=cs[1]? :=by kernel_rfl
theorem fa219_2 (b o:Nat):nfieldAddr Tryz.prog 219 (.ptr (some (b,o))) 2=some (.ptr (some (b,o+2))):=by kernel_rfl
theorem fi219_2 (cs:List NVal):nfield Tryz.prog 219 (.agg cs) 2=cs[2]? :=by kernel_rfl
theorem fa219_3 (b o:Nat):nfieldAddr Tryz.prog 219 (.ptr (some (b,o))) 3=some (.ptr (some (b,o+3))):=by kernel_rfl
theorem fi219_3 (cs:List NVal):nfield Tryz.prog 219 (.agg cs) 3=cs[3]? :=by kernel_rfl
theorem fa219_4 (b o:Nat):nfieldAddr Tryz.prog 219 (.ptr (some (b,o))) 4=some (.ptr (some (b,o+4))):=by kernel_rfl
theorem fi219_4 (cs:List NVal):nfield Tryz.prog 219 (.agg cs) 4=some (.agg ((cs.drop 4).take 6)):=by kernel_rfl
theorem fa219_5 (b o:Nat):nfieldAddr Tryz.prog 219 (.ptr (some (b,o))) 5=some (.ptr (some (b,o+10))):=by kernel_rfl
theorem fi219_5 (cs:List NVal):nfield Tryz.prog 219 (.agg cs) 5=cs[10]? :=by kernel_rfl
theorem fa219_6 (b o:Nat):nfieldAddr Tryz.prog 219 (.ptr (some (b,o))) 6=some (.ptr (some (b,o+11))):=by kernel_rfl
theorem fi219_6 (cs:List NVal):nfield Tryz.prog 219 (.agg cs) 6=cs[11]? :=by kernel_rfl
theorem fa219_7 (b o:Nat):nfieldAddr Tryz.prog 219 (.ptr (some (b,o))) 7=some (.ptr (some (b,o+12))):=by kernel_rfl
theorem fi219_7 (cs:List NVal):nfield Tryz.prog 219 (.agg cs) 7=cs[12]? :=by kernel_rfl
theorem fa219_8 (b o:Nat):nfieldAddr Tryz.prog 219 (.ptr (some (b,o))) 8=some (.ptr (some (b,o+13))):=by kernel_rfl
theorem fi219_8 (cs:List NVal):nfield Tryz.prog 219 (.agg cs) 8=cs[13]? :=by kernel_rfl
theorem fa219_9 (b o:Nat):nfieldAddr Tryz.prog 219 (.ptr (some (b,o))) 9=some (.ptr (some (b,o+14))):=by kernel_rfl
theorem fi219_9 (cs:List NVal):nfield Tryz.prog 219 (.agg cs) 9=some (.agg ((cs.drop 14).take 4)):=by kernel_rfl
theorem sz221:szOf Tryz.prog 221=some 1:=by kernel_rfl
theorem ag221:aggT Tryz.prog 221=some false:=by kernel_rfl
theorem by221:bytesOf Tryz.prog 221=some 8:=by kernel_rfl
theorem ze221:zeroOf Tryz.prog 221=some .nilFunc:=by kernel_rfl
theorem sz227:szOf Tryz.prog 227=some 38:=by kernel_rfl
theorem ag227:aggT Tryz.prog 227=some true:=by kernel_rfl
theorem by227:bytesOf Tryz.prog 227=some 472:=by kernel_rfl
theorem ze227:zeroOf Tryz.prog 227=some (.agg [(.str []),(.str []),(.int .i64 0),(.int .i64 0),(.int .i64 0),(.int .i64 0),(.bool false),(.int .i64 0),(.int .i64 0),(.int .i64 0),(.int .i64 0),(.int .u64 0),(.slice none 0 0 none),.nilFunc,.nilFunc,(.int .i64 0),(.int .i64 0),(.int .u64 0),(.str []),(.slice none 0 0 none),(.slice none 0 0 none),(.int .u8 0),(.int .i64 0),(.int .i64 0),(.int .u64 0),(.str []),(.slice none 0 0 none),(.slice none 0 0 none),(.int .u8 0),(.slice none 0 0 none),(.slice none 0 0 none),(.slice none 0 0 none),(.bool false),(.bool false),(.int .i64 0),(.bool false),(.int .i64 0),(.slice none 0 0 none)]):=by kernel_rfl
theorem fa227_0 (b o:Nat):nfieldAddr Tryz.prog 227 (.ptr (some (b,o))) 0=some (.ptr (some (b,o))):=by kernel_rfl
theorem fi227_0 (cs:List NVal):nfield Tryz.prog 227 (.agg cs) 0=cs[0]? :=by kernel_rfl
theorem fa227_1 (b o:Nat):nfieldAddr Tryz.prog 227 (.ptr (some (b,o))) 1=some (.ptr (some (b,o+1))):=by kernel_rfl
theorem fi227_1 (cs:List NVal):nfield Tryz.prog 227 (.agg cs) 1=cs[1]? :=by kernel_rfl
theorem fa227_2 (b o:Nat):nfieldAddr Tryz.prog 227 (.ptr (some (b,o))) 2=some (.ptr (some (b,o+2))):=by kernel_rfl
theorem fi227_2 (cs:List NVal):nfield Tryz.prog 227 (.agg cs) 2=cs[2]? :=by kernel_rfl
theorem fa227_3 (b o:Nat):nfieldAddr Tryz.prog 227 (.ptr (some (b,o))) 3=some (.ptr (some (b,o+3))):=by kernel_rfl
theorem fi227_3 (cs:List NVal):nfield Tryz.prog 227 (.agg cs) 3=cs[3]? :=by kernel_rfl
theorem fa227_4 (b o:Nat):nfieldAddr Tryz.prog 227 (.ptr (some (b,o))) 4=some (.ptr (some (b,o+4))):=by kernel_rfl
theorem fi227_4 (cs:List NVal):nfield Tryz.prog 227 (.agg cs) 4=cs[4]? :=by kernel_rfl
theorem fa227_5 (b o:Nat):nfieldAddr Tryz.prog 227 (.ptr (some (b,o))) 5=some (.ptr (some (b,o+5))):=by kernel_rfl
theorem fi227_5 (cs:List NVal):nfield Tryz.prog 227 (.agg cs) 5=cs[5]? :=by kernel_rfl
theorem fa227_6 (b o:Nat):nfieldAddr Tryz.prog 227 (.ptr (some (b,o))) 6=some (.ptr (some (b,o+6))):=by kernel_rfl
theorem fi227_6 (cs:List NVal):nfield Tryz.prog 227 (.agg cs) 6=cs[6]? :=by kernel_rfl
theorem fa227_7 (b o:Nat):nfieldAddr Tryz.prog 227 (.ptr (some (b,o))) 7=some (.ptr (some (b,o+7))):=by kernel_rfl
theorem fi227_7 (cs:List NVal):nfield Tryz.prog 227 (.agg cs) 7=some (.agg ((cs.drop 7).take 6)):=by kernel_rfl
theorem fa227_8 (b o:Nat):nfieldAddr Tryz.prog 227 (.ptr (some (b,o))) 8=some (.ptr (some (b,o+13))):=by kernel_rfl
theorem fi227_8 (cs:List NVal):nfield Tryz.prog 227 (.agg cs) 8=cs[13]? :=by kernel_rfl
theorem fa227_9 (b o:Nat):nfieldAddr Tryz.prog 227 (.ptr (some (b,o))) 9=some (.ptr (some (b,o+14))):=by kernel_rfl
theorem fi227_9 (cs:List NVal):nfield Tryz.prog 227 (.agg cs) 9=cs[14]? :=by kernel_rfl
theorem fa227_10 (b o:Nat):nfieldAddr Tryz.prog 227 (.ptr (some (b,o))) 10=some (.ptr (some (b,o+15))):=by kernel_rfl
theorem fi227_10 (cs:List NVal):nfield Tryz.prog 227 (.agg cs) 10=some (.agg ((cs.drop 15).take 7)):=by kernel_rfl
theorem fa227_11 (b o:Nat):nfieldAddr Tryz.prog 227 (.ptr (some (b,o))) 11=some (.ptr (some (b,o+22))):=by kernel_rfl
theorem fi227_11 (cs:List NVal):nfield Tryz.prog 227 (.agg cs) 11=some (.agg ((cs.drop 22).take 7)):=by kernel_rfl
theorem fa227_12 (b o:Nat):nfieldAddr Tryz.prog 227 (.ptr (some (b,o))) 12=some (.ptr (some (b,o+29))):=by kernel_rfl
theorem fi227_12 (cs:List NVal):nfield Tryz.prog 227 (.agg cs) 12=cs[29]? :=by kernel_rfl
theorem fa227_13 (b o:Nat):nfieldAddr Tryz.prog 227 (.ptr (some (b,o))) 13=some (.ptr (some (b,o+30))):=by kernel_rfl
theorem fi227_13 (cs:List NVal):nfield Tryz.prog 227 (.agg cs) 13=cs[30]? :=by kernel_rfl
theorem fa227_14 (b o:Nat):nfieldAddr Tryz.prog 227 (.ptr (some (b,o))) 14=some (.ptr (some (b,o+31))):=by kernel_rfl
theorem fi227_14 (cs:List NVal):nfield Tryz.prog 227 (.agg cs) 14=cs[31]? :=by kernel_rfl
theorem fa227_15 (b o:Nat):nfieldAddr Tryz.prog 227 (.ptr (some (b,o))) 15=some (.ptr (some (b,o+32))):=by kernel_rfl
theorem fi227_15 (cs:List NVal):nfield Tryz.prog 227 (.agg cs) 15=cs[32]? :=by kernel_rfl
theorem fa227_16 (b o:Nat):nfieldAddr Tryz.prog 227 (.ptr (some (b,o))) 16=some (.ptr (some (b,o+33))):=by kernel_rfl
theorem fi227_16 (cs:List NVal):nfield Tryz.prog 227 (.agg cs) 16=cs[33]? :=by kernel_rfl
theorem fa227_17 (b o:Nat):nfieldAddr Tryz.prog 227 (.ptr (some (b,o))) 17=some (.ptr (some (b,o+34))):=by kernel_rfl
theorem fi227_17 (cs:List NVal):nfield Tryz.prog 227 (.agg cs) 17=some (.agg ((cs.drop 34).take 4)):=by kernel_rfl
theorem sz230:szOf Tryz.prog 230=some 1:=by kernel_rfl
theorem ag230:aggT Tryz.prog 230=some false:=by kernel_rfl
theorem by230:bytesOf Tryz.prog 230=some 8:=by kernel_rfl
theorem ze230:zeroOf Tryz.prog 230=some .nilFunc:=by kernel_rfl
theorem sz235:szOf Tryz.prog 235=some 45:=by kernel_rfl
theorem ag235:aggT Tryz.prog 235=some true:=by kernel_rfl
theorem by235:bytesOf Tryz.prog 235=some 568:=by kernel_rfl
theorem ze235:zeroOf Tryz.prog 235=some (.agg [(.str []),(.str []),(.int .i64 0),(.int .i64 0),(.int .i64 0),(.bool false),(.int .i64 0),(.int .i64 0),(.int .i64 0),(.int .i64 0),(.int .u64 0),(.slice none 0 0 none),.nilFunc,.nilFunc,(.int .i64 0),(.int .i64 0),(.int .u64 0),(.str []),(.slice none 0 0 none),(.slice none 0 0 none),(.int .u8 0),(.int .i64 0),(.int .i64 0),(.int .u64 0),(.str []),(.slice none 0 0 none),(.slice none 0 0 none),(.int .u8 0),(.int .i64 0),(.int .i64 0),(.int .u64 0),(.str []),(.slice none 0 0 none),(.slice none 0 0 none),(.int .u8 0),(.int .i64 0),(.slice none 0 0 none),(.slice none 0 0 none),(.slice none 0 0 none),(.bool false),(.bool false),(.int .i64 0),(.bool false),(.int .i64 0),(.slice none 0 0 none)]):=by kernel_rfl
theorem fa235_0 (b o:Nat):nfieldAddr Tryz.prog 235 (.ptr (some (b,o))) 0=some (.ptr (some (b,o))):=by kernel_rfl
theorem fi235_0 (cs:List NVal):nfield Tryz.prog 235 (.agg cs) 0=cs[0]? :=by kernel_rfl
theorem fa235_1 (b o:Nat):nfieldAddr Tryz.prog 235 (.ptr (some (b,o))) 1=some (.ptr (some (b,o+1))):=by kernel_rfl
theorem fi235_1 (cs:List NVal):nfield Tryz.prog 235 (.agg cs) 1=cs[1]? :=by kernel_rfl
theorem fa235_2 (b o:Nat):nfieldAddr Tryz.prog 235 (.ptr (some (b,o))) 2=some (.ptr (some (b,o+2))):=by kernel_rfl
theorem fi235_2 (cs:List NVal):nfield Tryz.prog 235 (.agg cs) 2=cs[2]? :=by kernel_rfl
theorem fa235_3 (b o:Nat):nfieldAddr Tryz.prog 235 (.ptr (some (b,o))) 3=some (.ptr (some (b,o+3))):=by kernel_rfl
theorem fi235_3 (cs:List NVal):nfield Tryz.prog 235 (.agg cs) 3=cs[3]? :=by kernel_rfl
theorem fa235_4 (b o:Nat):nfieldAddr Tryz.prog 235 (.ptr (some (b,o))) 4=some (.ptr (some (b,o+4))):=by kernel_rfl
theorem fi235_4 (cs:List NVal):nfield Tryz.prog 235 (.agg cs) 4=cs[4]? :=by kernel_rfl
theorem fa235_5 (b o:Nat):nfieldAddr Tryz.prog 235 (.ptr (some (b,o))) 5=some (.ptr (some (b,o+5))):=by kernel_rfl
theorem fi235_5 (cs:List NVal):nfield Tryz.prog 235 (.agg cs) 5=cs[5]? :=by kernel_rfl
theorem fa235_6 (b o:Nat):nfieldAddr Tryz.prog 235 (.ptr (some (b,o))) 6=some (.ptr (some (b,o+6))):=by kernel_rfl
theorem fi235_6 (cs:List NVal):nfield Tryz.prog 235 (.agg cs) 6=some (.agg ((cs.drop 6).take 6)):=by kernel_rfl
theorem fa235_7 (b o:Nat):nfieldAddr Tryz.prog 235 (.ptr (some (b,o))) 7=some (.ptr (some (b,o+12))):=by kernel_rfl
theorem fi235_7 (cs:List NVal):nfield Tryz.prog 235 (.agg cs) 7=cs[12]? :=by kernel_rfl
theorem fa235_8 (b o:Nat):nfieldAddr Tryz.prog 235 (.ptr (some (b,o))) 8=some (.ptr (some (b,o+13))):=by kernel_rfl
theorem fi235_8 (cs:List NVal):nfield Tryz.prog 235 (.agg cs) 8=cs[13]? :=by kernel_rfl
theorem fa235_9 (b o:Nat):nfieldAddr Tryz.prog 235 (.ptr (some (b,o))) 9=some (.ptr (some (b,o+14))):=by kernel_rfl
theorem fi235_9 (cs:List NVal):nfield Tryz.prog 235 (.agg cs) 9=some (.agg ((cs.drop 14).take 7)):=by kernel_rfl
theorem fa235_10 (b o:Nat):nfieldAddr Tryz.prog 235 (.ptr (some (b,o))) 10=some (.ptr (some (b,o+21))):=by kernel_rfl
theorem fi235_10 (cs:List NVal):nfield Tryz.prog 235 (.agg cs) 10=some (.agg ((cs.drop 21).take 7)):=by kernel_rfl
theorem fa235_11 (b o:Nat):nfieldAddr Tryz.prog 235 (.ptr (some (b,o))) 11=some (.ptr (some (b,o+28))):=by kernel_rfl
theorem fi235_11 (cs:List NVal):nfield Tryz.prog 235 (.agg cs) 11=some (.agg ((cs.drop 28).take 7)):=by kernel_rfl
theorem fa235_12 (b o:Nat):nfieldAddr Tryz.prog 235 (.ptr (some (b,o))) 12=some (.ptr (some (b,o+35))):=by kernel_rfl
theorem fi235_12 (cs:List NVal):nfield Tryz.prog 235 (.agg cs) 12=cs[35]? :=by kernel_rfl
theorem fa235_13 (b o:Nat):nfieldAddr Tryz.prog 235 (.ptr (some (b,o))) 13=some (.ptr (some (b,o+36))):=by kernel_rfl
theorem fi235_13 (cs:List NVal):nfield Tryz.prog 235 (.agg cs) 13=cs[36]? :=by kernel_rfl
theorem fa235_14 (b o:Nat):nfieldAddr Tryz.prog 235 (.ptr (some (b,o))) 14=some (.ptr (some (b,o+37))):=by kernel_rfl
theorem fi235_14 (cs:List NVal):nfield Tryz.prog 235 (.agg cs) 14=cs[37]? :=by kernel_rfl
theorem fa235_15 (b o:Nat):nfieldAddr Tryz.prog 235 (.ptr (some (b,o))) 15=some (.ptr (some (b,o+38))):=by kernel_rfl
theorem fi235_15 (cs:List NVal):nfield Tryz.prog 235 (.agg cs) 15=cs[38]? :=by kernel_rfl
theorem fa235_16 (b o:Nat):nfieldAddr Tryz.prog 235 (.ptr (some (b,o))) 16=some (.ptr (some (b,o+39))):=by kernel_rfl
theorem fi235_16 (cs:List NVal):nfield Tryz.prog 235 (.agg cs) 16=cs[39]? :=by kernel_rfl
theorem fa235_17 (b o:Nat):nfieldAddr Tryz.prog 235 (.ptr (some (b,o))) 17=some (.ptr (some (b,o+40))):=by kernel_rfl
theorem fi235_17 (cs:List NVal):nfield Tryz.prog 235 (.agg cs) 17=cs[40]? :=by kernel_rfl
theorem fa235_18 (b o:Nat):nfieldAddr Tryz.prog 235 (.ptr (some (b,o))) 18=some (.ptr (some (b,o+41))):=by kernel_rfl
theorem fi235_18 (cs:List NVal):nfield Tryz.prog 235 (.agg cs) 18=some (.agg ((cs.drop 41).take 4)):=by kernel_rfl
theorem sz237:szOf Tryz.prog 237=some 1:=by kernel_rfl
theorem ag237:aggT Tryz.prog 237=some false:=by kernel_rfl
theorem by237:bytesOf Tryz.prog 237=some 8:=by kernel_rfl
theorem ze237:zeroOf Tryz.prog 237=some .nilFunc:=by kernel_rfl
theorem sz239:szOf Tryz.prog 239=some 10:=by kernel_rfl
theorem ag239:aggT Tryz.prog 239=some true:=by kernel_rfl
theorem by239:bytesOf Tryz.prog 239=some 96:=by kernel_rfl
theorem ze239:zeroOf Tryz.prog 239=some (.agg [(.int .i64 0),(.int .i64 0),(.int .i64 0),(.int .i64 0),(.int .i64 0),(.int .u64 0),(.slice none 0 0 none),.nilFunc,(.int .i64 0),(.bool false)]):=by kernel_rfl
theorem fa239_0 (b o:Nat):nfieldAddr Tryz.prog 239 (.ptr (some (b,o))) 0=some (.ptr (some (b,o))):=by kernel_rfl
theorem fi239_0 (cs:List NVal):nfield Tryz.prog 239 (.agg cs) 0=cs[0]? :=by kernel_rfl
theorem fa239_1 (b o:Nat):nfieldAddr Tryz.prog 239 (.ptr (some (b,o))) 1=some (.ptr (some (b,o+1))):=by kernel_rfl
theorem fi239_1 (cs:List NVal):nfield Tryz.prog 239 (.agg cs) 1=some (.agg ((cs.drop 1).take 6)):=by kernel_rfl
theorem fa239_2 (b o:Nat):nfieldAddr Tryz.prog 239 (.ptr (some (b,o))) 2=some (.ptr (some (b,o+7))):=by kernel_rfl
theorem fi239_2 (cs:List NVal):nfield Tryz.prog 239 (.agg cs) 2=cs[7]? :=by kernel_rfl
theorem fa239_3 (b o:Nat):nfieldAddr Tryz.prog 239 (.ptr (some (b,o))) 3=some (.ptr (some (b,o+8))):=by kernel_rfl
theorem fi239_3 (cs:List NVal):nfield Tryz.prog 239 (.agg cs) 3=cs[8]? :=by kernel_rfl
theorem fa239_4 (b o:Nat):nfieldAddr Tryz.prog 239 (.ptr (some (b,o))) 4=some (.ptr (some (b,o+9))):=by kernel_rfl
theorem fi239_4 (cs:List NVal):nfield Tryz.prog 239 (.agg cs) 4=cs[9]? :=by kernel_rfl
theorem sz247:szOf Tryz.prog 247=some 1:=by kernel_rfl
theorem ag247:aggT Tryz.prog 247=some false:=by kernel_rfl
theorem by247:bytesOf Tryz.prog 247=some 8:=by kernel_rfl
theorem ze247:zeroOf Tryz.prog 247=some (.ptr none):=by kernel_rfl
theorem sz250:szOf Tryz.prog 250=some 2:=by kernel_rfl
theorem ag250:aggT Tryz.prog 250=some true:=by kernel_rfl
theorem by250:bytesOf Tryz.prog 250=some 16:=by kernel_rfl
theorem ze250:zeroOf Tryz.prog 250=some (.agg [(.int .i64 0),(.int .i64 0)]):=by kernel_rfl
theorem fa250_0 (b o:Nat):nfieldAddr Tryz.prog 250 (.ptr (some (b,o))) 0=some (.ptr (some (b,o))):=by kernel_rfl
theorem fi250_0 (cs:List NVal):nfield Tryz.prog 250 (.agg cs) 0=cs[0]? :=by kernel_rfl
theorem fa250_1 (b o:Nat):nfieldAddr Tryz.prog 250 (.ptr (some (b,o))) 1=some (.ptr (some (b,o+1))):=by kernel_rfl
theorem fi250_1 (cs:List NVal):nfield Tryz.prog 250 (.agg cs) 1=cs[1]? :=by kernel_rfl
theorem sz263:szOf Tryz.prog 263=some 1:=by kernel_rfl
theorem ag263:aggT Tryz.prog 263=some false:=by kernel_rfl
theorem by263:bytesOf Tryz.prog 263=some 16:=by kernel_rfl
theorem ze263:zeroOf Tryz.prog 263=some .nilIface:=by kernel_rfl
theorem sz276:szOf Tryz.prog 276=some 24:=by kernel_rfl
theorem ag276:aggT Tryz.prog 276=some true:=by kernel_rfl
theorem by276:bytesOf Tryz.prog 276=some 24:=by kernel_rfl
theorem ze276:zeroOf Tryz.prog 276=some (.agg ([(.int .u8 0),(.int .u8 0),(.int .u8 0),(.int .u8 0),(.int .u8 0),(.int .u8 0),(.int .u8 0),(.int .u8 0),(.int .u8 0),(.int .u8 0),(.int .u8 0),(.int .u8 0),(.int .u8 0),(.int .u8 0),(.int .u8 0),(.int .u8 0),(.int .u8 0),(.int .u8 0),(.int .u8 0),(.int .u8 0),(.int .u8 0),(.int .u8 0),(.int .u8 0),(.int .u8 0)])):=by kernel_rfl
theorem sz281:szOf Tryz.prog 281=some 1:=by kernel_rfl
theorem ag281:aggT Tryz.prog 281=some false:=by kernel_rfl
theorem by281:bytesOf Tryz.prog 281=some 4:=by kernel_rfl
theorem ze281:zeroOf Tryz.prog 281=some (.int .u32 0):=by kernel_rfl
theorem bu24 (l:List (Nat×NVal)):kBuild Tryz.prog 24 (some l)=(match nfill (fun i=>([(0,5),(5,1),(6,1),(7,1)]:List (Nat×Nat))[i]?) ([(.int .i64 0),(.int .i64 0),(.int .i64 0),(.int .i64 0),(.int .i64 0),(.int .i64 0),(.int .i64 0),(.int .i64 0)]) l with|none=>none|some cs=>some (.agg cs)):=kBuild_struct ze24 Tryz.underlying24 (by kernel_rfl) l
theorem ia25 (b o n c:Nat) (x k) (i:Int) (h0:0≤i) (h1:i<(n:Int)):nindexAddr Tryz.prog 25 (.slice (some (b,o)) n c x) (.int k i)=some (.ptr (some (b,o+i.toNat*1))):=indexAddr_slice Tryz.underlying25 sz52 b o n c x k i h0 h1
theorem pe27 (a):nbin Tryz.prog .eql 27 (.ptr a) (.ptr none)=some (.bool a.isNone):=ptr_eql Tryz.underlying27 a
theorem bu34 (l:List (Nat×NVal)):kBuild Tryz.prog 34 (some l)=(match nfill (fun i=>([(0,1),(1,1),(2,1),(3,1)]:List (Nat×Nat))[i]?) [(.slice none 0 0 none),(.str []),(.int .i64 0),(.bool false)] l with|none=>none|some cs=>some (.agg cs)):=kBuild_struct ze34 Tryz.underlying34 (by kernel_rfl) l
theorem ia39 (b o n c:Nat) (x k) (i:Int) (h0:0≤i) (h1:i<(n:Int)):nindexAddr Tryz.prog 39 (.slice (some (b,o)) n c x) (.int k i)=some (.ptr (some (b,o+i.toNat*1))):=indexAddr_slice Tryz.underlying39 sz5 b o n c x k i h0 h1
theorem ia47 (b o n c:Nat) (x k) (i:Int) (h0:0≤i) (h1:i<(n:Int)):nindexAddr Tryz.prog 47 (.slice (some (b,o)) n c x) (.int k i)=some (.ptr (some (b,o+i.toNat*9))):=indexAddr_slice Tryz.underlying47 sz65 b o n c x k i h0 h1
theorem bu51 (l:List (Nat×NVal)):kBuild Tryz.prog 51 (some l)=(match nfill (fun i=>([(0,8),(8,1),(9,1),(10,1),(11,1),(12,1)]:List (Nat×Nat))[i]?) ([(.int .i64 0),(.int .i64 0),(.int .i64 0),(.int .i64 0),(.int .i64 0),(.int .i64 0),(.int .i64 0),(.int .i64 0),(.ptr none),(.slice none 0 0 none),(.slice none 0 0 none),(.slice none 0 0 none),(.int .i64 0)]) l with|none=>none|some cs=>some (.agg cs)):=kBuild_struct ze51 Tryz.underlying51 (by kernel_rfl) l
theorem ia52 (b o n c:Nat) (x k) (i:Int) (h0:0≤i) (h1:i<(n:Int)):nindexAddr Tryz.prog 52 (.slice (some (b,o)) n c x) (.int k i)=some (.ptr (some (b,o+i.toNat*4))):=indexAddr_slice Tryz.underlying52 sz55 b o n c x k i h0 h1
theorem se52 (a n c x):nbin Tryz.prog .eql 52 (.slice a n c x) (.slice none 0 0 none)=some (.bool a.isNone):=slice_eql Tryz.underlying52 a n c x
theorem bu55 (l:List (Nat×NVal)):kBuild Tryz.prog 55 (some l)=(match nfill (fun i=>([(0,1),(1,1),(2,1),(3,1)]:List (Nat×Nat))[i]?) [(.int .i64 0),(.str []),(.str []),(.int .i64 0)] l with|none=>none|some cs=>some (.agg cs)):=kBuild_struct ze55 Tryz.underlying55 (by kernel_rfl) l
theorem bu63 (l:List (Nat×NVal)):kBuild Tryz.prog 63 (some l)=(match nfill (fun i=>([(0,1),(1,1),(2,1),(3,1)]:List (Nat×Nat))[i]?) [.nilFunc,.nilFunc,.nilFunc,.nilFunc] l with|none=>none|some cs=>some (.agg cs)):=kBuild_struct ze63 Tryz.underlying63 (by kernel_rfl) l
theorem bu70 (l:List (Nat×NVal)):kBuild Tryz.prog 70 (some l)=(match nfill (fun i=>([(0,1),(1,4)]:List (Nat×Nat))[i]?) [(.ptr none),(.slice none 0 0 none),(.str []),(.int .i64 0),(.bool false)] l with|none=>none|some cs=>some (.agg cs)):=kBuild_struct ze70 Tryz.underlying70 (by kernel_rfl) l
theorem ia77 (b o n c:Nat) (x k) (i:Int) (h0:0≤i) (h1:i<(n:Int)):nindexAddr Tryz.prog 77 (.slice (some (b,o)) n c x) (.int k i)=some (.ptr (some (b,o+i.toNat*1))):=indexAddr_slice Tryz.underlying77 sz3 b o n c x k i h0 h1
theorem pe83 (a):nbin Tryz.prog .eql 83 (.ptr a) (.ptr none)=some (.bool a.isNone):=ptr_eql Tryz.underlying83 a
theorem ia106 (b o n c:Nat) (x k) (i:Int) (h0:0≤i) (h1:i<(n:Int)):nindexAddr Tryz.prog 106 (.slice (some (b,o)) n c x) (.int k i)=some (.ptr (some (b,o+i.toNat*1))):=indexAddr_slice Tryz.underlying106 sz108 b o n c x k i h0 h1
theorem se106 (a n c x):nbin Tryz.prog .eql 106 (.slice a n c x) (.slice none 0 0 none)=some (.bool a.isNone):=slice_eql Tryz.underlying106 a n c x
theorem bu110 (l:List (Nat×NVal)):kBuild Tryz.prog 110 (some l)=(match nfill (fun i=>([(0,1),(1,1),(2,1),(3,1),(4,1)]:List (Nat×Nat))[i]?) [(.int .i64 0),(.int .u64 0),(.str []),(.slice none 0 0 none),(.slice none 0 0 none)] l with|none=>none|some cs=>some (.agg cs)):=kBuild_struct ze110 Tryz.underlying110 (by kernel_rfl) l
theorem bu112 (l:List (Nat×NVal)):kBuild Tryz.prog 112 (some l)=(match nfill (fun i=>([(0,1),(1,1),(2,1),(3,1),(4,1)]:List (Nat×Nat))[i]?) [(.ptr none),(.ptr none),(.int .i64 0),(.int .i64 0),(.int .i64 0)] l with|none=>none|some cs=>some (.agg cs)):=kBuild_struct ze112 Tryz.underlying112 (by kernel_rfl) l
theorem bu117 (l:List (Nat×NVal)):kBuild Tryz.prog 117 (some l)=(match nfill (fun i=>([(0,1),(1,1),(2,1),(3,1)]:List (Nat×Nat))[i]?) [(.int .i64 0),(.int .i64 0),(.bool false),(.slice none 0 0 none)] l with|none=>none|some cs=>some (.agg cs)):=kBuild_struct ze117 Tryz.underlying117 (by kernel_rfl) l
theorem bu120 (l:List (Nat×NVal)):kBuild Tryz.prog 120 (some l)=(match nfill (fun i=>([(0,1),(1,1),(2,1),(3,1),(4,1),(5,1)]:List (Nat×Nat))[i]?) [(.int .i64 0),(.int .i64 0),(.int .i64 0),(.int .i64 0),(.int .u64 0),(.slice none 0 0 none)] l with|none=>none|some cs=>some (.agg cs)):=kBuild_struct ze120 Tryz.underlying120 (by kernel_rfl) l
theorem ia138 (b o n c:Nat) (x k) (i:Int) (h0:0≤i) (h1:i<(n:Int)):nindexAddr Tryz.prog 138 (.slice (some (b,o)) n c x) (.int k i)=some (.ptr (some (b,o+i.toNat*4))):=indexAddr_slice Tryz.underlying138 sz147 b o n c x k i h0 h1
theorem bu142 (l:List (Nat×NVal)):kBuild Tryz.prog 142 (some l)=(match nfill (fun i=>([(0,1),(1,5)]:List (Nat×Nat))[i]?) [(.slice none 0 0 none),(.ptr none),(.ptr none),(.ptr none),(.ptr none),(.ptr none)] l with|none=>none|some cs=>some (.agg cs)):=kBuild_struct ze142 Tryz.underlying142 (by kernel_rfl) l
theorem bu147 (l:List (Nat×NVal)):kBuild Tryz.prog 147 (some l)=(match nfill (fun i=>([(0,1),(1,1),(2,1),(3,1)]:List (Nat×Nat))[i]?) [(.int .i64 0),(.int .i64 0),(.bool false),(.slice none 0 0 none)] l with|none=>none|some cs=>some (.agg cs)):=kBuild_struct ze147 Tryz.underlying147 (by kernel_rfl) l
theorem ia148 (b o n c:Nat) (x k) (i:Int) (h0:0≤i) (h1:i<(n:Int)):nindexAddr Tryz.prog 148 (.slice (some (b,o)) n c x) (.int k i)=some (.ptr (some (b,o+i.toNat*2))):=indexAddr_slice Tryz.underlying148 sz153 b o n c x k i h0 h1
theorem bu150 (l:List (Nat×NVal)):kBuild Tryz.prog 150 (some l)=(match nfill (fun i=>([(0,1),(1,1),(2,1)]:List (Nat×Nat))[i]?) [(.int .i64 0),(.int .i64 0),(.slice none 0 0 none)] l with|none=>none|some cs=>some (.agg cs)):=kBuild_struct ze150 Tryz.underlying150 (by kernel_rfl) l
theorem ia151 (b o n c:Nat) (x k) (i:Int) (h0:0≤i) (h1:i<(n:Int)):nindexAddr Tryz.prog 151 (.slice (some (b,o)) n c x) (.int k i)=some (.ptr (some (b,o+i.toNat*2))):=indexAddr_slice Tryz.underlying151 sz250 b o n c x k i h0 h1
theorem se151 (a n c x):nbin Tryz.prog .eql 151 (.slice a n c x) (.slice none 0 0 none)=some (.bool a.isNone):=slice_eql Tryz.underlying151 a n c x
theorem bu153 (l:List (Nat×NVal)):kBuild Tryz.prog 153 (some l)=(match nfill (fun i=>([(0,1),(1,1)]:List (Nat×Nat))[i]?) [(.int .i64 0),(.slice none 0 0 none)] l with|none=>none|some cs=>some (.agg cs)):=kBuild_struct ze153 Tryz.underlying153 (by kernel_rfl) l
theorem ia203 (b o n c:Nat) (x k) (i:Int) (h0:0≤i) (h1:i<(n:Int)):nindexAddr Tryz.prog 203 (.slice (some (b,o)) n c x) (.int k i)=some (.ptr (some (b,o+i.toNat*1))):=indexAddr_slice Tryz.underlying203 sz3 b o n c x k i h0 h1
theorem bu205 (l:List (Nat×NVal)):kBuild Tryz.prog 205 (some l)=(match nfill (fun i=>([(0,1),(1,1),(2,1)]:List (Nat×Nat))[i]?) [(.int .i64 0),(.slice none 0 0 none),(.map none)] l with|none=>none|some cs=>some (.agg cs)):=kBuild_struct ze205 Tryz.underlying205 (by kernel_rfl) l
theorem bu206 (l:List (Nat×NVal)):kBuild Tryz.prog 206 (some l)=(match nfill (fun i=>([]:List (Nat×Nat))[i]?) [] l with|none=>none|some cs=>some (.agg cs)):=kBuild_struct ze206 Tryz.underlying206 (by kernel_rfl) l
theorem bu214 (l:List (Nat×NVal)):kBuild Tryz.prog 214 (some l)=(match nfill (fun i=>([(0,1),(1,1),(2,1),(3,6),(9,1),(10,1),(11,1),(12,1),(13,4)]:List (Nat×Nat))[i]?) [(.str []),(.str []),(.int .i64 0),(.int .i64 0),(.int .i64 0),(.int .i64 0),(.int .i64 0),(.int .u64 0),(.slice none 0 0 none),.nilFunc,(.int .i64 0),(.bool false),(.bool false),(.int .i64 0),(.bool false),(.int .i64 0),(.slice none 0 0 none)] l with|none=>none|some cs=>some (.agg cs)):=kBuild_struct ze214 Tryz.underlying214 (by kernel_rfl) l
theorem bu219 (l:List (Nat×NVal)):kBuild Tryz.prog 219 (some l)=(match nfill (fun i=>([(0,1),(1,1),(2,1),(3,1),(4,6),(10,1),(11,1),(12,1),(13,1),(14,4)]:List (Nat×Nat))[i]?) ([(.str []),(.str []),(.int .i64 0),(.int .i64 0),(.int .i64 0),(.int .i64 0),(.int .i64 0),(.int .i64 0),(.int .u64 0),(.slice none 0 0 none),.nilFunc,(.str []),(.slice none 0 0 none),(.bool false),(.int .i64 0),(.bool false),(.int .i64 0),(.slice none 0 0 none)]) l with|none=>none|some cs=>some (.agg cs)):=kBuild_struct ze219 Tryz.underlying219 (by kernel_rfl) l
theorem bu227 (l:List (Nat×NVal)):kBuild Tryz.prog 227 (some l)=(match nfill (fun i=>([(0,1),(1,1),(2,1),(3,1),(4,1),(5,1),(6,1),(7,6),(13,1),(14,1),(15,7),(22,7),(29,1),(30,1),(31,1),(32,1),(33,1),(34,4)]:List (Nat×Nat))[i]?) [(.str []),(.str []),(.int .i64 0),(.int .i64 0),(.int .i64 0),(.int .i64 0),(.bool false),(.int .i64 0),(.int .i64 0),(.int .i64 0),(.int .i64 0),(.int .u64 0),(.slice none 0 0 none),.nilFunc,.nilFunc,(.int .i64 0),(.int .i64 0),(.int .u64 0),(.str []),(.slice none 0 0 none),(.slice none 0 0 none),(.int .u8 0),(.int .i64 0),(.int .i64 0),(.int .u64 0),(.str []),(.slice none 0 0 none),(.slice none 0 0 none),(.int .u8 0),(.slice none 0 0 none),(.slice none 0 0 none),(.slice none 0 0 none),(.bool false),(.bool false),(.int .i64 0),(.bool false),(.int .i64 0),(.slice none 0 0 none)] l with|none=>none|some cs=>some (.agg cs)):=kBuild_struct ze227 Tryz.underlying227 (by kernel_rfl) l
theorem bu235 (l:List (Nat×NVal)):kBuild Tryz.prog 235 (some l)=(match nfill (fun i=>([(0,1),(1,1),(2,1),(3,1),(4,1),(5,1),(6,6),(12,1),(13,1),(14,7),(21,7),(28,7),(35,1),(36,1),(37,1),(38,1),(39,1),(40,1),(41,4)]:List (Nat×Nat))[i]?) [(.str []),(.str []),(.int .i64 0),(.int .i64 0),(.int .i64 0),(.bool false),(.int .i64 0),(.int .i64 0),(.int .i64 0),(.int .i64 0),(.int .u64 0),(.slice none 0 0 none),.nilFunc,.nilFunc,(.int .i64 0),(.int .i64 0),(.int .u64 0),(.str []),(.slice none 0 0 none),(.slice none 0 0 none),(.int .u8 0),(.int .i64 0),(.int .i64 0),(.int .u64 0),(.str []),(.slice none 0 0 none),(.slice none 0 0 none),(.int .u8 0),(.int .i64 0),(.int .i64 0),(.int .u64 0),(.str []),(.slice none 0 0 none),(.slice none 0 0 none),(.int .u8 0),(.int .i64 0),(.slice none 0 0 none),(.slice none 0 0 none),(.slice none 0 0 none),(.bool false),(.bool false),(.int .i64 0),(.bool false),(.int .i64 0),(.slice none 0 0 none)] l with|none=>none|some cs=>some (.agg cs)):=kBuild_struct ze235 Tryz.underlying235 (by kernel_rfl) l
theorem bu239 (l:List (Nat×NVal)):kBuild Tryz.prog 239 (some l)=(match nfill (fun i=>([(0,1),(1,6),(7,1),(8,1),(9,1)]:List (Nat×Nat))[i]?) [(.int .i64 0),(.int .i64 0),(.int .i64 0),(.int .i64 0),(.int .i64 0),(.int .u64 0),(.slice none 0 0 none),.nilFunc,(.int .i64 0),(.bool false)] l with|none=>none|some cs=>some (.agg cs)):=kBuild_struct ze239 Tryz.underlying239 (by kernel_rfl) l
theorem pe247 (a):nbin Tryz.prog .eql 247 (.ptr a) (.ptr none)=some (.bool a.isNone):=ptr_eql Tryz.underlying247 a
theorem bu250 (l:List (Nat×NVal)):kBuild Tryz.prog 250 (some l)=(match nfill (fun i=>([(0,1),(1,1)]:List (Nat×Nat))[i]?) [(.int .i64 0),(.int .i64 0)] l with|none=>none|some cs=>some (.agg cs)):=kBuild_struct ze250 Tryz.underlying250 (by kernel_rfl) l
attribute [go_sem] sz2 ag2 by2 ze2 sz3 ag3 by3 ze3 sz4 ag4 by4 ze4 sz5 ag5 by5 ze5 sz9 ag9 by9 ze9 sz20 ag20 by20 ze20 sz22 ag22 by22 ze22 sz24 ag24 by24 ze24 fa24_0 fi24_0 fa24_1 fi24_1 fa24_2 fi24_2 fa24_3 fi24_3 sz25 ag25 by25 ze25 sz27 ag27 by27 ze27 sz28 ag28 by28 ze28 sz32 ag32 by32 ze32 sz34 ag34 by34 ze34 fa34_0 fi34_0 fa34_1 fi34_1 fa34_2 fi34_2 fa34_3 fi34_3 sz39 ag39 by39 ze39 sz44 ag44 by44 ze44 sz47 ag47 by47 ze47 sz48 ag48 by48 ze48 sz51 ag51 by51 ze51 fa51_0 fi51_0 fa51_1 fi51_1 fa51_2 fi51_2 fa51_3 fi51_3 fa51_4 fi51_4 fa51_5 fi51_5 sz52 ag52 by52 ze52 sz55 ag55 by55 ze55 fa55_0 fi55_0 fa55_1 fi55_1 fa55_2 fi55_2 fa55_3 fi55_3 sz57 ag57 by57 ze57 sz63 ag63 by63 ze63 fa63_0 fi63_0 fa63_1 fi63_1 fa63_2 fi63_2 fa63_3 fi63_3 sz65 ag65 by65 ze65 fa65_0 fi65_0 fa65_1 fi65_1 fa65_2 fi65_2 fa65_3 fi65_3 fa65_4 fi65_4 fa65_5 fi65_5 sz67 ag67 by67 ze67 sz70 ag70 by70 ze70 fa70_0 fi70_0 fa70_1 fi70_1 sz76 ag76 by76 ze76 fa76_0 fi76_0 fa76_1 fi76_1 sz77 ag77 by77 ze77 sz83 ag83 by83 ze83 sz85 ag85 by85 ze85 fa85_0 fi85_0 fa85_1 fi85_1 sz88 ag88 by88 ze88 fa88_0 fi88_0 fa88_1 fi88_1 fa88_2 fi88_2 fa88_3 fi88_3 sz90 ag90 by90 ze90 fa90_0 fi90_0 fa90_1 fi90_1 fa90_2 fi90_2 fa90_3 fi90_3 sz98 ag98 by98 ze98 sz101 ag101 by101 ze101 sz106 ag106 by106 ze106 sz108 ag108 by108 ze108 sz110 ag110 by110 ze110 fa110_0 fi110_0 fa110_1 fi110_1 fa110_2 fi110_2 fa110_3 fi110_3 fa110_4 fi110_4 sz112 ag112 by112 ze112 fa112_0 fi112_0 fa112_1 fi112_1 fa112_2 fi112_2 fa112_3 fi112_3 fa112_4 fi112_4 sz117 ag117 by117 ze117 fa117_0 fi117_0 fa117_1 fi117_1 fa117_2 fi117_2 fa117_3 fi117_3 sz120 ag120 by120 ze120 fa120_0 fi120_0 fa120_1 fi120_1 fa120_2 fi120_2 fa120_3 fi120_3 fa120_4 fi120_4 fa120_5 fi120_5 sz136 ag136 by136 ze136 sz137 ag137 by137 ze137 sz138 ag138 by138 ze138 sz139 ag139 by139 ze139 sz140 ag140 by140 ze140 sz142 ag142 by142 ze142 fa142_0 fi142_0 fa142_1 fi142_1 sz147 ag147 by147 ze147 fa147_0 fi147_0 fa147_1 fi147_1 fa147_2 fi147_2 fa147_3 fi147_3 sz148 ag148 by148 ze148 sz150 ag150 by150 ze150 fa150_0 fi150_0 fa150_1 fi150_1 fa150_2 fi150_2 sz151 ag151 by151 ze151 sz153 ag153 by153 ze153 fa153_0 fi153_0 fa153_1 fi153_1 sz157 ag157 by157 ze157 sz163 ag163 by163 ze163 sz166 ag166 by166 ze166 sz169 ag169 by169 ze169 sz172 ag172 by172 ze172 sz175 ag175 by175 ze175 sz200 ag200 by200 ze200 sz202 ag202 by202 ze202 sz203 ag203 by203 ze203 sz205 ag205 by205 ze205 fa205_0 fi205_0 fa205_1 fi205_1 fa205_2 fi205_2 sz206 ag206 by206 ze206 sz208 ag208 by208 ze208 sz212 ag212 by212 ze212 sz214 ag214 by214 ze214 fa214_0 fi214_0 fa214_1 fi214_1 fa214_2 fi214_2 fa214_3 fi214_3 fa214_4 fi214_4 fa214_5 fi214_5 fa214_6 fi214_6 fa214_7 fi214_7 fa214_8 fi214_8 sz216 ag216 by216 ze216 sz219 ag219 by219 ze219 fa219_0 fi219_0 fa219_1 fi219_1 fa219_2 fi219_2 fa219_3 fi219_3 fa219_4 fi219_4 fa219_5 fi219_5 fa219_6 fi219_6 fa219_7 fi219_7 fa219_8 fi219_8 fa219_9 fi219_9 sz221 ag221 by221 ze221 sz227 ag227 by227 ze227 fa227_0 fi227_0 fa227_1 fi227_1 fa227_2 fi227_2 fa227_3 fi227_3 fa227_4 fi227_4 fa227_5 fi227_5 fa227_6 fi227_6 fa227_7 fi227_7 fa227_8 fi227_8 fa227_9 fi227_9 fa227_10 fi227_10 fa227_11 fi227_11 fa227_12 fi227_12 fa227_13 fi227_13 fa227_14 fi227_14 fa227_15 fi227_15 fa227_16 fi227_16 fa227_17 fi227_17 sz230 ag230 by230 ze230 sz235 ag235 by235 ze235 fa235_0 fi235_0 fa235_1 fi235_1 fa235_2 fi235_2 fa235_3 fi235_3 fa235_4 fi235_4 fa235_5 fi235_5 fa235_6 fi235_6 fa235_7 fi235_7 fa235_8 fi235_8 fa235_9 fi235_9 fa235_10 fi235_10 fa235_11 fi235_11 fa235_12 fi235_12 fa235_13 fi235_13 fa235_14 fi235_14 fa235_15 fi235_15 fa235_16 fi235_16 fa235_17 fi235_17 fa235_18 fi235_18 sz237 ag237 by237 ze237 sz239 ag239 by239 ze239 fa239_0 fi239_0 fa239_1 fi239_1 fa239_2 fi239_2 fa239_3 fi239_3 fa239_4 fi239_4 sz247 ag247 by247 ze247 sz250 ag250 by250 ze250 fa250_0 fi250_0 fa250_1 fi250_1 sz263 ag263 by263 ze263 sz276 ag276 by276 ze276 sz281 ag281 by281 ze281 bu24 ia25 pe27 bu34 ia39 ia47 bu51 ia52 se52 bu55 bu63 bu70 ia77 pe83 ia106 se106 bu110 bu112 bu117 bu120 ia138 bu142 bu147 ia148 bu150 ia151 se151 bu153 ia203 bu205 bu206 bu214 bu219 bu227 bu235 bu239 pe247 bu250
attribute [go_sem] Tryz.underlying2 Tryz.underlying3 Tryz.underlying4 Tryz.underlying5 Tryz.underlying9 Tryz.underlying20 Tryz.underlying22 Tryz.underlying24 Tryz.underlying25 Tryz.underlying27 Tryz.underlying28 Tryz.underlying32 Tryz.underlying34 Tryz.underlying37 Tryz.underlying39 Tryz.underlying44 Tryz.underlying47 Tryz.underlying48 Tryz.underlying49 Tryz.underlying51 Tryz.underlying52 Tryz.underlying55 Tryz.underlying57 Tryz.underlying59 Tryz.underlying60 Tryz.underlying61 Tryz.underlying63 Tryz.underlying65 Tryz.underlying67 Tryz.underlying70 Tryz.underlying76 Tryz.underlying77 Tryz.underlying83 Tryz.underlying85 Tryz.underlying88 Tryz.underlying90 Tryz.underlying98 Tryz.underlying101 Tryz.underlying106 Tryz.underlying108 Tryz.underlying110 Tryz.underlying112 Tryz.underlying117 Tryz.underlying120 Tryz.underlying125 Tryz.underlying136 Tryz.underlying137 Tryz.underlying138 Tryz.underlying139 Tryz.underlying140 Tryz.underlying142 Tryz.underlying147 Tryz.underlying148 Tryz.underlying150 Tryz.underlying151 Tryz.underlying153 Tryz.underlying157 Tryz.underlying163 Tryz.underlying166 Tryz.underlying169 Tryz.underlying172 Tryz.underlying175 Tryz.underlying184 Tryz.underlying195 Tryz.underlying197 Tryz.underlying200 Tryz.underlying202 Tryz.underlying203 Tryz.underlying205 Tryz.underlying206 Tryz.underlying208 Tryz.underlying212 Tryz.underlying214 Tryz.underlying216 Tryz.underlying217 Tryz.underlying219 Tryz.underlying221 Tryz.underlying222 Tryz.underlying224 Tryz.underlying225 Tryz.underlying227 Tryz.underlying230 Tryz.underlying231 Tryz.underlying233 Tryz.underlying235 Tryz.underlying237 Tryz.underlying239 Tryz.underlying247 Tryz.underlying250 Tryz.underlying263 Tryz.underlying276 Tryz.underlying281 Tryz.underlying287 Tryz.underlying288 Tryz.underlying295 Tryz.underlying296 Tryz.underlying297 Tryz.underlying308 Tryz.underlying310 Tryz.underlying334 Tryz.underlying336
end Go.Proofs.YtkjpldganajkkaaGreatDoor.S
