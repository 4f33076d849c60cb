/-
  Contracts of the program's functions, and plain facts, towards the laws of millpondtop. No condition beyond those that each theorem bears.
-/
import Derived.Shelf.SlIterI.Nil
import Derived.Shelf.SortM.Plain
import Derived.Shelf.SortM.SortNone
import Derived.Ground.GgzProg
import Derived.Ground.SlgmProg
import Derived.Test.YtkfoeonggmlebaaGreatDoorRows
import Derived.Test.YtkfoeonggmlebaaGreatDoorQAA
set_option maxRecDepth 100000
set_option maxHeartbeats 4000000
namespace Go.Proofs.YtkfoeonggmlebaaGreatDoor
end Go.Proofs.YtkfoeonggmlebaaGreatDoor
namespace Go.Proofs
open Go.Shelf
def Tryz.keysG_ren:Go.Shelf.Ren:=⟨fun | 7=>218 | 10=>247 | n=>n,fun | 23=>105 | 26=>3 | 3=>228 | 28=>208 | 0=>0 | 27=>150 | 33=>120 | 4=>4 | n=>n,fun | n=>n⟩
theorem Tryz.keysG:Go.Proofs.SlLaysZI.n7 Tryz.prog Tryz.keysG_ren:={
 mixed:=by kernel_rfl
 f7:=⟨Tryz.f218.name,by decide,Tryz.func218.trans (congrArg some (by kernel_rfl))⟩
 f10:=⟨Tryz.f247.name,by decide,Tryz.func247.trans (congrArg some (by kernel_rfl))⟩
 t0:=Tryz.underlying0
 a0:=Tryz.isAgg0
 z0:=Tryz.sizeOf0
 v0:=Tryz.zeroValue0
 t4:=Tryz.underlying4
 a4:=Tryz.isAgg4
 z4:=Tryz.sizeOf4
 v4:=Tryz.zeroValue4
 t23:=Tryz.underlying105
 a23:=Tryz.isAgg105
 z23:=Tryz.sizeOf105
 v23:=Tryz.zeroValue105
 t26:=Tryz.underlying3
 a26:=Tryz.isAgg3
 z26:=Tryz.sizeOf3
 v26:=Tryz.zeroValue3
 t27:=Tryz.underlying150
 a27:=Tryz.isAgg150
 z27:=Tryz.sizeOf150
 v27:=Tryz.zeroValue150
 t28:=Tryz.underlying208
 a28:=Tryz.isAgg208
 z28:=Tryz.sizeOf208
 v28:=Tryz.zeroValue208
 t33:=Tryz.underlying120
 a33:=Tryz.isAgg120
 z33:=Tryz.sizeOf120
 v33:=Tryz.zeroValue120 }
def Tryz.sortedI_ren:Go.Shelf.Ren:=⟨fun | 6=>202 | 8=>77 | 9=>240 | 11=>137 | 13=>267 | 12=>266 | 23=>288 | 24=>268 | 14=>279 | 15=>280 | 16=>281 | 17=>282 | 18=>283 | 19=>284 | 20=>285 | 21=>286 | 22=>287 | 25=>292 | 26=>293 | 27=>294 | 28=>295 | 29=>296 | 30=>249 | 31=>299 | n=>n,fun | 26=>3 | 28=>208 | 24=>30 | 0=>0 | 3=>3 | 37=>178 | 48=>343 | 50=>181 | 4=>4 | 40=>337 | 39=>336 | 45=>140 | 5=>5 | 9=>9 | 51=>344 | 55=>348 | 57=>351 | 58=>352 | 33=>120 | n=>n,fun | n=>n⟩
theorem Tryz.sortedI:Go.Proofs.SlLaysZI.n6 Tryz.prog Tryz.sortedI_ren:={
 mixed:=by kernel_rfl
 f6:=⟨Tryz.f202.name,by decide,Tryz.func202.trans (congrArg some (by kernel_rfl))⟩
 f8:=⟨Tryz.f77.name,by decide,Tryz.func77.trans (congrArg some (by kernel_rfl))⟩
 f11:=⟨Tryz.f137.name,by decide,Tryz.func137.trans (congrArg some (by kernel_rfl))⟩
 t0:=Tryz.underlying0
 a0:=Tryz.isAgg0
 z0:=Tryz.sizeOf0
 v0:=Tryz.zeroValue0
 t24:=Tryz.underlying30
 a24:=Tryz.isAgg30
 z24:=Tryz.sizeOf30
 v24:=Tryz.zeroValue30
 t26:=Tryz.underlying3
 a26:=Tryz.isAgg3
 z26:=Tryz.sizeOf3
 v26:=Tryz.zeroValue3
 t28:=Tryz.underlying208
 a28:=Tryz.isAgg208
 z28:=Tryz.sizeOf208
 v28:=Tryz.zeroValue208
 i26:=by kernel_rfl }
def Tryz.sortI_ren:Go.Shelf.Ren:=⟨fun | 5=>240 | 8=>267 | 7=>266 | 19=>288 | 20=>268 | 10=>279 | 11=>280 | 12=>281 | 13=>282 | 14=>283 | 15=>284 | 16=>285 | 17=>286 | 18=>287 | 30=>292 | 31=>293 | 32=>294 | 33=>295 | 34=>296 | 35=>249 | 40=>299 | n=>n,fun | 23=>30 | 25=>3 | 3=>3 | 32=>178 | 22=>30 | 0=>0 | 44=>343 | 46=>181 | 4=>4 | 36=>337 | 35=>336 | 41=>140 | 5=>5 | 9=>9 | 53=>344 | 57=>348 | 63=>351 | 64=>352 | n=>n,fun | n=>n⟩
theorem Tryz.sortI:Go.Proofs.SlLaysM.n5 Tryz.prog Tryz.sortI_ren:={
 mixed:=by kernel_rfl
 f5:=⟨Tryz.f240.name,by decide,Tryz.func240.trans (congrArg some (by kernel_rfl))⟩
 f7:=⟨Tryz.f266.name,by decide,Tryz.func266.trans (congrArg some (by kernel_rfl))⟩
 f8:=Tryz.func267.trans (congrArg some (by kernel_rfl))
 f10:=⟨Tryz.f279.name,by decide,Tryz.func279.trans (congrArg some (by kernel_rfl))⟩
 f11:=⟨Tryz.f280.name,by decide,Tryz.func280.trans (congrArg some (by kernel_rfl))⟩
 f12:=⟨Tryz.f281.name,by decide,Tryz.func281.trans (congrArg some (by kernel_rfl))⟩
 f13:=⟨Tryz.f282.name,by decide,Tryz.func282.trans (congrArg some (by kernel_rfl))⟩
 f14:=⟨Tryz.f283.name,by decide,Tryz.func283.trans (congrArg some (by kernel_rfl))⟩
 f15:=⟨Tryz.f284.name,by decide,Tryz.func284.trans (congrArg some (by kernel_rfl))⟩
 f16:=⟨Tryz.f285.name,by decide,Tryz.func285.trans (congrArg some (by kernel_rfl))⟩
 f17:=⟨Tryz.f286.name,by decide,Tryz.func286.trans (congrArg some (by kernel_rfl))⟩
 f18:=⟨Tryz.f287.name,by decide,Tryz.func287.trans (congrArg some (by kernel_rfl))⟩
 f19:=Tryz.func288.trans (congrArg some (by kernel_rfl))
 f20:=Tryz.func268.trans (congrArg some (by kernel_rfl))
 f30:=⟨Tryz.f292.name,by decide,Tryz.func292.trans (congrArg some (by kernel_rfl))⟩
 f31:=Tryz.func293.trans (congrArg some (by kernel_rfl))
 f32:=Tryz.func294.trans (congrArg some (by kernel_rfl))
 f33:=⟨Tryz.f295.name,by decide,Tryz.func295.trans (congrArg some (by kernel_rfl))⟩
 f34:=⟨Tryz.f296.name,by decide,Tryz.func296.trans (congrArg some (by kernel_rfl))⟩
 f35:=⟨Tryz.f249.name,by decide,Tryz.func249.trans (congrArg some (by kernel_rfl))⟩
 f40:=⟨Tryz.f299.name,by decide,Tryz.func299.trans (congrArg some (by kernel_rfl))⟩
 t0:=Tryz.underlying0
 a0:=Tryz.isAgg0
 z0:=Tryz.sizeOf0
 v0:=Tryz.zeroValue0
 t3:=Tryz.underlying3
 a3:=Tryz.isAgg3
 z3:=Tryz.sizeOf3
 v3:=Tryz.zeroValue3
 t4:=Tryz.underlying4
 a4:=Tryz.isAgg4
 z4:=Tryz.sizeOf4
 v4:=Tryz.zeroValue4
 t5:=Tryz.underlying5
 a5:=Tryz.isAgg5
 z5:=Tryz.sizeOf5
 v5:=Tryz.zeroValue5
 t9:=Tryz.underlying9
 a9:=Tryz.isAgg9
 z9:=Tryz.sizeOf9
 v9:=Tryz.zeroValue9
 t22:=Tryz.underlying30
 a22:=Tryz.isAgg30
 z22:=Tryz.sizeOf30
 v22:=Tryz.zeroValue30
 t23:=Tryz.underlying30
 a23:=Tryz.isAgg30
 z23:=Tryz.sizeOf30
 v23:=Tryz.zeroValue30
 t25:=Tryz.underlying3
 a25:=Tryz.isAgg3
 z25:=Tryz.sizeOf3
 v25:=Tryz.zeroValue3
 t32:=Tryz.underlying178
 a32:=Tryz.isAgg178
 z32:=Tryz.sizeOf178
 v32:=Tryz.zeroValue178
 t35:=Tryz.underlying336
 a35:=Tryz.isAgg336
 z35:=Tryz.sizeOf336
 v35:=Tryz.zeroValue336
 t36:=Tryz.underlying337
 a36:=Tryz.isAgg337
 z36:=Tryz.sizeOf337
 v36:=Tryz.zeroValue337
 t41:=Tryz.underlying140
 a41:=Tryz.isAgg140
 z41:=Tryz.sizeOf140
 v41:=Tryz.zeroValue140
 t44:=Tryz.underlying343
 a44:=Tryz.isAgg343
 z44:=Tryz.sizeOf343
 v44:=Tryz.zeroValue343
 t46:=Tryz.underlying181
 a46:=Tryz.isAgg181
 z46:=Tryz.sizeOf181
 v46:=Tryz.zeroValue181
 t53:=Tryz.underlying344
 a53:=Tryz.isAgg344
 z53:=Tryz.sizeOf344
 v53:=Tryz.zeroValue344
 t57:=Tryz.underlying348
 a57:=Tryz.isAgg348
 z57:=Tryz.sizeOf348
 v57:=Tryz.zeroValue348
 t63:=Tryz.underlying351
 a63:=Tryz.isAgg351
 z63:=Tryz.sizeOf351
 v63:=Tryz.zeroValue351
 t64:=Tryz.underlying352
 a64:=Tryz.isAgg352
 z64:=Tryz.sizeOf352
 v64:=Tryz.zeroValue352 }
end Go.Proofs
namespace Go.Proofs.YtkfoeonggmlebaaGreatDoor
end Go.Proofs.YtkfoeonggmlebaaGreatDoor
