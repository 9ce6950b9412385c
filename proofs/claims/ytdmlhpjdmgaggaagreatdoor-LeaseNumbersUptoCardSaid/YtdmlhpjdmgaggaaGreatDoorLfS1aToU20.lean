/-
 The contracts of strings.Repeat, strings.CutPrefix, strconv.ParseUint, strconv.Itoa, strconv.Atoi and strings.Builder at this translation (printed by the kit's lay-plain.mjs).
-/
import Derived.Shelf.Strings.Repeat
import Derived.Shelf.Small.Wraps
import Derived.Shelf.Pu.ParseUintPublic10
import Derived.Shelf.Strconv.Itoa3
import Derived.Shelf.Strconv.AtoiAll
import Derived.Shelf.Strings.BuilderK
import Derived.Test.YtdmlhpjdmgaggaaGreatDoorProg
import Derived.Test.YtdmlhpjdmgaggaaGreatDoorLfU1ToU4
import Derived.Lib.ItoaNum
import Derived.Lib.Repeat
import Derived.Lib.ParseIntB
import Derived.Test.YtdmlhpjdmgaggaaGreatDoorLfV1ToB1
import Derived.Test.YtdmlhpjdmgaggaaGreatDoorRows
import Derived.Lib.ItoaLen
import Derived.Lib.AppendIntMem
import Derived.WalkKit
import Derived.ProofKit
import Derived.OpenShut
import Derived.JoinedCond
import Derived.Deep.Slices
import Derived.Carry
set_option linter.unusedVariables false
set_option linter.unusedSimpArgs false
namespace Go.Proofs
open Go.Shelf
def Tryz.lays105_ren:Go.Shelf.Ren:=⟨fun|105=>132|212=>168|99=>49|165=>169|166=>149|170=>170|169=>151|263=>198|264=>199|206=>91|240=>178|241=>200|276=>207|277=>215|n=>n,fun|9=>9|3=>3|4=>4|20=>20|0=>0|46=>41|109=>234|5=>5|72=>215|76=>184|51=>204|146=>205|53=>81|148=>258|70=>213|37=>42|75=>183|127=>244|164=>267|80=>157|n=>n,fun|n=>n⟩
theorem Tryz.lays105:Go.Proofs.Lays.n105 Tryz.prog Tryz.lays105_ren:= {
 mixed:=by kernel_rfl
 f99:=Tryz.func49.trans (congrArg some (by kernel_rfl))
 f105:=Tryz.func132.trans (congrArg some (by kernel_rfl))
 f165:=Tryz.func169.trans (congrArg some (by kernel_rfl))
 f166:=Tryz.func149.trans (congrArg some (by kernel_rfl))
 f169:=Tryz.func151.trans (congrArg some (by kernel_rfl))
 f170:=Tryz.func170.trans (congrArg some (by kernel_rfl))
 f206:=Tryz.func91.trans (congrArg some (by kernel_rfl))
 f212:=Tryz.func168.trans (congrArg some (by kernel_rfl))
 f240:=Tryz.func178.trans (congrArg some (by kernel_rfl))
 f241:=Tryz.func200.trans (congrArg some (by kernel_rfl))
 f263:=Tryz.func198.trans (congrArg some (by kernel_rfl))
 f264:=Tryz.func199.trans (congrArg some (by kernel_rfl))
 f276:=Tryz.func207.trans (congrArg some (by kernel_rfl))
 f277:=Tryz.func215.trans (congrArg some (by kernel_rfl))
 t0:=Tryz.underlying0
 a0:=Tryz.isAgg0
 z0:=Tryz.sizeOf0
 v0:=Tryz.zeroValue0
 t3:=Tryz.underlying3
 a3:=Tryz.isAgg3
 z3:=Tryz.sizeOf3
 v3:=Tryz.zeroValue3
 t4:=Tryz.underlying4
 a4:=Tryz.isAgg4
 z4:=Tryz.sizeOf4
 v4:=Tryz.zeroValue4
 t5:=Tryz.underlying5
 a5:=Tryz.isAgg5
 z5:=Tryz.sizeOf5
 v5:=Tryz.zeroValue5
 t9:=Tryz.underlying9
 a9:=Tryz.isAgg9
 z9:=Tryz.sizeOf9
 v9:=Tryz.zeroValue9
 t20:=Tryz.underlying20
 a20:=Tryz.isAgg20
 z20:=Tryz.sizeOf20
 v20:=Tryz.zeroValue20
 t37:=Tryz.underlying42
 a37:=Tryz.isAgg42
 z37:=Tryz.sizeOf42
 v37:=Tryz.zeroValue42
 t46:=Tryz.underlying41
 a46:=Tryz.isAgg41
 z46:=Tryz.sizeOf41
 v46:=Tryz.zeroValue41
 t51:=Tryz.underlying204
 a51:=Tryz.isAgg204
 z51:=Tryz.sizeOf204
 v51:=Tryz.zeroValue204
 t53:=Tryz.underlying81
 a53:=Tryz.isAgg81
 z53:=Tryz.sizeOf81
 v53:=Tryz.zeroValue81
 t70:=Tryz.underlying213
 a70:=Tryz.isAgg213
 z70:=Tryz.sizeOf213
 v70:=Tryz.zeroValue213
 t72:=Tryz.underlying215
 a72:=Tryz.isAgg215
 z72:=Tryz.sizeOf215
 v72:=Tryz.zeroValue215
 t75:=Tryz.underlying183
 a75:=Tryz.isAgg183
 z75:=Tryz.sizeOf183
 v75:=Tryz.zeroValue183
 t76:=Tryz.underlying184
 a76:=Tryz.isAgg184
 z76:=Tryz.sizeOf184
 v76:=Tryz.zeroValue184
 t109:=Tryz.underlying234
 a109:=Tryz.isAgg234
 z109:=Tryz.sizeOf234
 v109:=Tryz.zeroValue234
 t127:=Tryz.underlying244
 a127:=Tryz.isAgg244
 z127:=Tryz.sizeOf244
 v127:=Tryz.zeroValue244
 t146:=Tryz.underlying205
 a146:=Tryz.isAgg205
 z146:=Tryz.sizeOf205
 v146:=Tryz.zeroValue205
 t148:=Tryz.underlying258
 a148:=Tryz.isAgg258
 z148:=Tryz.sizeOf258
 v148:=Tryz.zeroValue258
 t164:=Tryz.underlying267
 a164:=Tryz.isAgg267
 z164:=Tryz.sizeOf267
 v164:=Tryz.zeroValue267}
theorem Tryz.extra105:Builder.Extra Tryz.prog Tryz.lays105_ren:= {
 sizeBuilder:=by kernel_rfl
 liesBuilder:=by kernel_rfl
 t5:=Tryz.lays105.t5
 a5:=Tryz.lays105.a5
 z5:=Tryz.lays105.z5
 v5:=Tryz.lays105.v5
 infoByte:=by kernel_rfl
 cellsByte:=by kernel_rfl
 sizeByte:=by kernel_rfl
 neB5:=by decide}
theorem Tryz.lays166:Lays.n166 Tryz.prog Tryz.lays105_ren:= {Tryz.lays105 with}
theorem Tryz.lays169:Lays.n169 Tryz.prog Tryz.lays105_ren:= {Tryz.lays105 with}
def Tryz.lays103_ren:Go.Shelf.Ren:=⟨fun|103=>165|210=>187|206=>91|n=>n,fun|9=>9|4=>4|24=>38|3=>3|n=>n,fun|n=>n⟩
theorem Tryz.lays103:Go.Proofs.Lays.n103 Tryz.prog Tryz.lays103_ren:= {
 mixed:=by kernel_rfl
 f103:=Tryz.func165.trans (congrArg some (by kernel_rfl))
 f206:=Tryz.func91.trans (congrArg some (by kernel_rfl))
 f210:=Tryz.func187.trans (congrArg some (by kernel_rfl))
 t3:=Tryz.underlying3
 a3:=Tryz.isAgg3
 z3:=Tryz.sizeOf3
 v3:=Tryz.zeroValue3
 t4:=Tryz.underlying4
 a4:=Tryz.isAgg4
 z4:=Tryz.sizeOf4
 v4:=Tryz.zeroValue4
 t9:=Tryz.underlying9
 a9:=Tryz.isAgg9
 z9:=Tryz.sizeOf9
 v9:=Tryz.zeroValue9
 t24:=Tryz.underlying38
 a24:=Tryz.isAgg38
 z24:=Tryz.sizeOf38
 v24:=Tryz.zeroValue38}
def Tryz.laysPu14_ren:Go.Shelf.Ren:=⟨fun|14=>166|16=>188|17=>139|19=>209|20=>210|21=>173|22=>174|23=>175|24=>176|25=>205|27=>101|26=>206|28=>135|29=>171|30=>201|31=>202|32=>203|33=>204|35=>164|34=>216|36=>217|37=>218|38=>219|39=>221|40=>222|n=>n,fun|9=>9|3=>3|22=>81|24=>183|25=>231|4=>4|34=>237|5=>5|36=>41|37=>42|0=>0|39=>240|21=>21|44=>265|47=>244|50=>280|48=>278|2=>2|52=>260|55=>262|59=>276|60=>204|20=>20|61=>277|65=>282|66=>283|67=>157|n=>n,fun|0=>0|1=>1|2=>2|3=>4|4=>5|n=>n⟩
theorem Tryz.laysPu14:Go.Proofs.LaysPu.n14 Tryz.prog Tryz.laysPu14_ren:= {
 mixed:=by kernel_rfl
 f14:=Tryz.func166.trans (congrArg some (by kernel_rfl))
 f16:=Tryz.func188.trans (congrArg some (by kernel_rfl))
 f17:=Tryz.func139.trans (congrArg some (by kernel_rfl))
 f19:=Tryz.func209.trans (congrArg some (by kernel_rfl))
 f20:=Tryz.func210.trans (congrArg some (by kernel_rfl))
 f21:=Tryz.func173.trans (congrArg some (by kernel_rfl))
 f22:=Tryz.func174.trans (congrArg some (by kernel_rfl))
 f23:=Tryz.func175.trans (congrArg some (by kernel_rfl))
 f24:=Tryz.func176.trans (congrArg some (by kernel_rfl))
 f25:=Tryz.func205.trans (congrArg some (by kernel_rfl))
 f26:=Tryz.func206.trans (congrArg some (by kernel_rfl))
 f27:=Tryz.func101.trans (congrArg some (by kernel_rfl))
 f28:=Tryz.func135.trans (congrArg some (by kernel_rfl))
 f29:=Tryz.func171.trans (congrArg some (by kernel_rfl))
 f30:=Tryz.func201.trans (congrArg some (by kernel_rfl))
 f31:=Tryz.func202.trans (congrArg some (by kernel_rfl))
 f32:=Tryz.func203.trans (congrArg some (by kernel_rfl))
 f33:=Tryz.func204.trans (congrArg some (by kernel_rfl))
 f34:=Tryz.func216.trans (congrArg some (by kernel_rfl))
 f35:=Tryz.func164.trans (congrArg some (by kernel_rfl))
 f36:=Tryz.func217.trans (congrArg some (by kernel_rfl))
 f37:=Tryz.func218.trans (congrArg some (by kernel_rfl))
 f38:=Tryz.func219.trans (congrArg some (by kernel_rfl))
 f39:=Tryz.func221.trans (congrArg some (by kernel_rfl))
 f40:=Tryz.func222.trans (congrArg some (by kernel_rfl))
 t0:=Tryz.underlying0
 a0:=Tryz.isAgg0
 z0:=Tryz.sizeOf0
 v0:=Tryz.zeroValue0
 i0:=by kernel_rfl
 t2:=Tryz.underlying2
 a2:=Tryz.isAgg2
 z2:=Tryz.sizeOf2
 v2:=Tryz.zeroValue2
 i2:=by kernel_rfl
 t3:=Tryz.underlying3
 a3:=Tryz.isAgg3
 z3:=Tryz.sizeOf3
 v3:=Tryz.zeroValue3
 i3:=by kernel_rfl
 t4:=Tryz.underlying4
 a4:=Tryz.isAgg4
 z4:=Tryz.sizeOf4
 v4:=Tryz.zeroValue4
 i4:=by kernel_rfl
 t5:=Tryz.underlying5
 a5:=Tryz.isAgg5
 z5:=Tryz.sizeOf5
 v5:=Tryz.zeroValue5
 i5:=by kernel_rfl
 t9:=Tryz.underlying9
 a9:=Tryz.isAgg9
 z9:=Tryz.sizeOf9
 v9:=Tryz.zeroValue9
 i9:=by kernel_rfl
 t20:=Tryz.underlying20
 a20:=Tryz.isAgg20
 z20:=Tryz.sizeOf20
 v20:=Tryz.zeroValue20
 i20:=by kernel_rfl
 t21:=Tryz.underlying21
 a21:=Tryz.isAgg21
 z21:=Tryz.sizeOf21
 v21:=Tryz.zeroValue21
 i21:=by kernel_rfl
 t22:=Tryz.underlying81
 a22:=Tryz.isAgg81
 z22:=Tryz.sizeOf81
 v22:=Tryz.zeroValue81
 i22:=by kernel_rfl
 t24:=Tryz.underlying183
 a24:=Tryz.isAgg183
 z24:=Tryz.sizeOf183
 v24:=Tryz.zeroValue183
 i24:=by kernel_rfl
 t25:=Tryz.underlying231
 a25:=Tryz.isAgg231
 z25:=Tryz.sizeOf231
 v25:=Tryz.zeroValue231
 i25:=by kernel_rfl
 t34:=Tryz.underlying237
 a34:=Tryz.isAgg237
 z34:=Tryz.sizeOf237
 v34:=Tryz.zeroValue237
 i34:=by kernel_rfl
 c34:=by kernel_rfl
 t36:=Tryz.underlying41
 a36:=Tryz.isAgg41
 z36:=Tryz.sizeOf41
 v36:=Tryz.zeroValue41
 i36:=by kernel_rfl
 t37:=Tryz.underlying42
 a37:=Tryz.isAgg42
 z37:=Tryz.sizeOf42
 v37:=Tryz.zeroValue42
 i37:=by kernel_rfl
 t39:=Tryz.underlying240
 a39:=Tryz.isAgg240
 z39:=Tryz.sizeOf240
 v39:=Tryz.zeroValue240
 i39:=by kernel_rfl
 t44:=Tryz.underlying265
 a44:=Tryz.isAgg265
 z44:=Tryz.sizeOf265
 v44:=Tryz.zeroValue265
 i44:=by kernel_rfl
 t47:=Tryz.underlying244
 a47:=Tryz.isAgg244
 z47:=Tryz.sizeOf244
 v47:=Tryz.zeroValue244
 i47:=by kernel_rfl
 t48:=Tryz.underlying278
 a48:=Tryz.isAgg278
 z48:=Tryz.sizeOf278
 v48:=Tryz.zeroValue278
 i48:=by kernel_rfl
 t50:=Tryz.underlying280
 a50:=Tryz.isAgg280
 z50:=Tryz.sizeOf280
 v50:=Tryz.zeroValue280
 i50:=by kernel_rfl
 t52:=Tryz.underlying260
 a52:=Tryz.isAgg260
 z52:=Tryz.sizeOf260
 v52:=Tryz.zeroValue260
 i52:=by kernel_rfl
 t55:=Tryz.underlying262
 a55:=Tryz.isAgg262
 z55:=Tryz.sizeOf262
 v55:=Tryz.zeroValue262
 i55:=by kernel_rfl
 t59:=Tryz.underlying276
 a59:=Tryz.isAgg276
 z59:=Tryz.sizeOf276
 v59:=Tryz.zeroValue276
 i59:=by kernel_rfl
 t60:=Tryz.underlying204
 a60:=Tryz.isAgg204
 z60:=Tryz.sizeOf204
 v60:=Tryz.zeroValue204
 i60:=by kernel_rfl
 t61:=Tryz.underlying277
 a61:=Tryz.isAgg277
 z61:=Tryz.sizeOf277
 t65:=Tryz.underlying282
 a65:=Tryz.isAgg282
 z65:=Tryz.sizeOf282
 v65:=Tryz.zeroValue282
 i65:=by kernel_rfl
 t66:=Tryz.underlying283
 a66:=Tryz.isAgg283
 z66:=Tryz.sizeOf283
 v66:=Tryz.zeroValue283
 i66:=by kernel_rfl
 t67:=Tryz.underlying157
 a67:=Tryz.isAgg157
 z67:=Tryz.sizeOf157
 v67:=Tryz.zeroValue157
 i67:=by kernel_rfl
 g0:=by kernel_rfl
 m0:=by kernel_rfl
 g1:=by kernel_rfl
 m1:=by kernel_rfl
 g2:=by kernel_rfl
 m2:=by kernel_rfl
 g3:=by kernel_rfl
 m3:=by kernel_rfl
 g4:=by kernel_rfl
 m4:=by kernel_rfl}
def Tryz.laysM171_ren:Go.Shelf.Ren:=⟨fun|171=>101|243=>135|246=>171|283=>201|284=>202|285=>203|286=>204|129=>164|317=>216|318=>217|319=>218|320=>219|337=>221|338=>222|n=>n,fun|3=>3|9=>9|2=>2|4=>4|171=>260|0=>0|53=>81|37=>42|5=>5|173=>262|212=>276|51=>204|20=>20|213=>277|46=>41|232=>282|233=>283|n=>n,fun|17=>2|18=>4|19=>5|n=>n⟩
theorem Tryz.laysM171:Go.Proofs.LaysM.n171 Tryz.prog Tryz.laysM171_ren:= {
 mixed:=by kernel_rfl
 f129:=Tryz.func164.trans (congrArg some (by kernel_rfl))
 f171:=Tryz.func101.trans (congrArg some (by kernel_rfl))
 f243:=Tryz.func135.trans (congrArg some (by kernel_rfl))
 f246:=Tryz.func171.trans (congrArg some (by kernel_rfl))
 f283:=Tryz.func201.trans (congrArg some (by kernel_rfl))
 f284:=Tryz.func202.trans (congrArg some (by kernel_rfl))
 f285:=Tryz.func203.trans (congrArg some (by kernel_rfl))
 f286:=Tryz.func204.trans (congrArg some (by kernel_rfl))
 f317:=Tryz.func216.trans (congrArg some (by kernel_rfl))
 f318:=Tryz.func217.trans (congrArg some (by kernel_rfl))
 f319:=Tryz.func218.trans (congrArg some (by kernel_rfl))
 f320:=Tryz.func219.trans (congrArg some (by kernel_rfl))
 f337:=Tryz.func221.trans (congrArg some (by kernel_rfl))
 f338:=Tryz.func222.trans (congrArg some (by kernel_rfl))
 t0:=Tryz.underlying0
 a0:=Tryz.isAgg0
 z0:=Tryz.sizeOf0
 v0:=Tryz.zeroValue0
 t2:=Tryz.underlying2
 a2:=Tryz.isAgg2
 z2:=Tryz.sizeOf2
 v2:=Tryz.zeroValue2
 t3:=Tryz.underlying3
 a3:=Tryz.isAgg3
 z3:=Tryz.sizeOf3
 v3:=Tryz.zeroValue3
 t4:=Tryz.underlying4
 a4:=Tryz.isAgg4
 z4:=Tryz.sizeOf4
 v4:=Tryz.zeroValue4
 t5:=Tryz.underlying5
 a5:=Tryz.isAgg5
 z5:=Tryz.sizeOf5
 v5:=Tryz.zeroValue5
 t9:=Tryz.underlying9
 a9:=Tryz.isAgg9
 z9:=Tryz.sizeOf9
 v9:=Tryz.zeroValue9
 t20:=Tryz.underlying20
 a20:=Tryz.isAgg20
 z20:=Tryz.sizeOf20
 v20:=Tryz.zeroValue20
 t37:=Tryz.underlying42
 a37:=Tryz.isAgg42
 z37:=Tryz.sizeOf42
 v37:=Tryz.zeroValue42
 t46:=Tryz.underlying41
 a46:=Tryz.isAgg41
 z46:=Tryz.sizeOf41
 v46:=Tryz.zeroValue41
 t51:=Tryz.underlying204
 a51:=Tryz.isAgg204
 z51:=Tryz.sizeOf204
 v51:=Tryz.zeroValue204
 t53:=Tryz.underlying81
 a53:=Tryz.isAgg81
 z53:=Tryz.sizeOf81
 v53:=Tryz.zeroValue81
 t171:=Tryz.underlying260
 a171:=Tryz.isAgg260
 z171:=Tryz.sizeOf260
 v171:=Tryz.zeroValue260
 t173:=Tryz.underlying262
 a173:=Tryz.isAgg262
 z173:=Tryz.sizeOf262
 v173:=Tryz.zeroValue262
 t212:=Tryz.underlying276
 a212:=Tryz.isAgg276
 z212:=Tryz.sizeOf276
 v212:=Tryz.zeroValue276
 t213:=Tryz.underlying277
 a213:=Tryz.isAgg277
 z213:=Tryz.sizeOf277
 t232:=Tryz.underlying282
 a232:=Tryz.isAgg282
 z232:=Tryz.sizeOf282
 v232:=Tryz.zeroValue282
 t233:=Tryz.underlying283
 a233:=Tryz.isAgg283
 z233:=Tryz.sizeOf283
 v233:=Tryz.zeroValue283
 g17:=by kernel_rfl
 g18:=by kernel_rfl
 g19:=by kernel_rfl
 i0:=by kernel_rfl
 i2:=by kernel_rfl
 i3:=by kernel_rfl
 i4:=by kernel_rfl
 i5:=by kernel_rfl
 i9:=by kernel_rfl
 i20:=by kernel_rfl
 i37:=by kernel_rfl
 i46:=by kernel_rfl
 i51:=by kernel_rfl
 i53:=by kernel_rfl
 i171:=by kernel_rfl
 i173:=by kernel_rfl
 i212:=by kernel_rfl
 i232:=by kernel_rfl
 i233:=by kernel_rfl
 m17:=by kernel_rfl
 m18:=by kernel_rfl
 m19:=by kernel_rfl}
def Tryz.laysC172_ren:Go.Shelf.Ren:=⟨fun|172=>108|244=>138|245=>139|247=>172|279=>173|280=>174|281=>175|282=>176|287=>188|316=>205|171=>101|205=>206|321=>209|322=>210|243=>135|246=>171|283=>201|284=>202|285=>203|286=>204|129=>164|317=>216|318=>217|319=>218|320=>219|337=>221|338=>222|n=>n,fun|9=>9|3=>3|75=>183|76=>184|4=>4|5=>5|167=>237|37=>42|0=>0|85=>238|2=>2|168=>240|53=>81|175=>231|46=>41|210=>265|127=>244|145=>280|143=>278|21=>21|171=>260|173=>262|212=>276|51=>204|20=>20|213=>277|232=>282|233=>283|80=>157|n=>n,fun|15=>0|16=>1|17=>2|18=>4|19=>5|n=>n⟩
theorem Tryz.laysC172:Go.Proofs.LaysC.n172 Tryz.prog Tryz.laysC172_ren:= {
 mixed:=by kernel_rfl
 f129:=Tryz.func164.trans (congrArg some (by kernel_rfl))
 f171:=Tryz.func101.trans (congrArg some (by kernel_rfl))
 f172:=Tryz.func108.trans (congrArg some (by kernel_rfl))
 f205:=Tryz.func206.trans (congrArg some (by kernel_rfl))
 f243:=Tryz.func135.trans (congrArg some (by kernel_rfl))
 f244:=Tryz.func138.trans (congrArg some (by kernel_rfl))
 f245:=Tryz.func139.trans (congrArg some (by kernel_rfl))
 f246:=Tryz.func171.trans (congrArg some (by kernel_rfl))
 f247:=Tryz.func172.trans (congrArg some (by kernel_rfl))
 f279:=Tryz.func173.trans (congrArg some (by kernel_rfl))
 f280:=Tryz.func174.trans (congrArg some (by kernel_rfl))
 f281:=Tryz.func175.trans (congrArg some (by kernel_rfl))
 f282:=Tryz.func176.trans (congrArg some (by kernel_rfl))
 f283:=Tryz.func201.trans (congrArg some (by kernel_rfl))
 f284:=Tryz.func202.trans (congrArg some (by kernel_rfl))
 f285:=Tryz.func203.trans (congrArg some (by kernel_rfl))
 f286:=Tryz.func204.trans (congrArg some (by kernel_rfl))
 f287:=Tryz.func188.trans (congrArg some (by kernel_rfl))
 f316:=Tryz.func205.trans (congrArg some (by kernel_rfl))
 f317:=Tryz.func216.trans (congrArg some (by kernel_rfl))
 f318:=Tryz.func217.trans (congrArg some (by kernel_rfl))
 f319:=Tryz.func218.trans (congrArg some (by kernel_rfl))
 f320:=Tryz.func219.trans (congrArg some (by kernel_rfl))
 f321:=Tryz.func209.trans (congrArg some (by kernel_rfl))
 f322:=Tryz.func210.trans (congrArg some (by kernel_rfl))
 f337:=Tryz.func221.trans (congrArg some (by kernel_rfl))
 f338:=Tryz.func222.trans (congrArg some (by kernel_rfl))
 t0:=Tryz.underlying0
 a0:=Tryz.isAgg0
 z0:=Tryz.sizeOf0
 v0:=Tryz.zeroValue0
 t2:=Tryz.underlying2
 a2:=Tryz.isAgg2
 z2:=Tryz.sizeOf2
 v2:=Tryz.zeroValue2
 t3:=Tryz.underlying3
 a3:=Tryz.isAgg3
 z3:=Tryz.sizeOf3
 v3:=Tryz.zeroValue3
 t4:=Tryz.underlying4
 a4:=Tryz.isAgg4
 z4:=Tryz.sizeOf4
 v4:=Tryz.zeroValue4
 t5:=Tryz.underlying5
 a5:=Tryz.isAgg5
 z5:=Tryz.sizeOf5
 v5:=Tryz.zeroValue5
 t9:=Tryz.underlying9
 a9:=Tryz.isAgg9
 z9:=Tryz.sizeOf9
 v9:=Tryz.zeroValue9
 t20:=Tryz.underlying20
 a20:=Tryz.isAgg20
 z20:=Tryz.sizeOf20
 v20:=Tryz.zeroValue20
 t21:=Tryz.underlying21
 a21:=Tryz.isAgg21
 z21:=Tryz.sizeOf21
 v21:=Tryz.zeroValue21
 t37:=Tryz.underlying42
 a37:=Tryz.isAgg42
 z37:=Tryz.sizeOf42
 v37:=Tryz.zeroValue42
 t46:=Tryz.underlying41
 a46:=Tryz.isAgg41
 z46:=Tryz.sizeOf41
 v46:=Tryz.zeroValue41
 t51:=Tryz.underlying204
 a51:=Tryz.isAgg204
 z51:=Tryz.sizeOf204
 v51:=Tryz.zeroValue204
 t53:=Tryz.underlying81
 a53:=Tryz.isAgg81
 z53:=Tryz.sizeOf81
 v53:=Tryz.zeroValue81
 t75:=Tryz.underlying183
 a75:=Tryz.isAgg183
 z75:=Tryz.sizeOf183
 v75:=Tryz.zeroValue183
 t76:=Tryz.underlying184
 a76:=Tryz.isAgg184
 z76:=Tryz.sizeOf184
 v76:=Tryz.zeroValue184
 t85:=Tryz.underlying238
 a85:=Tryz.isAgg238
 z85:=Tryz.sizeOf238
 v85:=Tryz.zeroValue238
 t127:=Tryz.underlying244
 a127:=Tryz.isAgg244
 z127:=Tryz.sizeOf244
 v127:=Tryz.zeroValue244
 t143:=Tryz.underlying278
 a143:=Tryz.isAgg278
 z143:=Tryz.sizeOf278
 v143:=Tryz.zeroValue278
 t145:=Tryz.underlying280
 a145:=Tryz.isAgg280
 z145:=Tryz.sizeOf280
 v145:=Tryz.zeroValue280
 t167:=Tryz.underlying237
 a167:=Tryz.isAgg237
 z167:=Tryz.sizeOf237
 v167:=Tryz.zeroValue237
 t168:=Tryz.underlying240
 a168:=Tryz.isAgg240
 z168:=Tryz.sizeOf240
 v168:=Tryz.zeroValue240
 t171:=Tryz.underlying260
 a171:=Tryz.isAgg260
 z171:=Tryz.sizeOf260
 v171:=Tryz.zeroValue260
 t173:=Tryz.underlying262
 a173:=Tryz.isAgg262
 z173:=Tryz.sizeOf262
 v173:=Tryz.zeroValue262
 t175:=Tryz.underlying231
 a175:=Tryz.isAgg231
 z175:=Tryz.sizeOf231
 v175:=Tryz.zeroValue231
 t210:=Tryz.underlying265
 a210:=Tryz.isAgg265
 z210:=Tryz.sizeOf265
 v210:=Tryz.zeroValue265
 t212:=Tryz.underlying276
 a212:=Tryz.isAgg276
 z212:=Tryz.sizeOf276
 v212:=Tryz.zeroValue276
 t213:=Tryz.underlying277
 a213:=Tryz.isAgg277
 z213:=Tryz.sizeOf277
 t232:=Tryz.underlying282
 a232:=Tryz.isAgg282
 z232:=Tryz.sizeOf282
 v232:=Tryz.zeroValue282
 t233:=Tryz.underlying283
 a233:=Tryz.isAgg283
 z233:=Tryz.sizeOf283
 v233:=Tryz.zeroValue283
 g15:=by kernel_rfl
 g16:=by kernel_rfl
 g17:=by kernel_rfl
 g18:=by kernel_rfl
 g19:=by kernel_rfl
 t80:=Tryz.underlying157
 a80:=Tryz.isAgg157
 z80:=Tryz.sizeOf157
 v80:=Tryz.zeroValue157
 i0:=by kernel_rfl
 i2:=by kernel_rfl
 i3:=by kernel_rfl
 i4:=by kernel_rfl
 i5:=by kernel_rfl
 i9:=by kernel_rfl
 i20:=by kernel_rfl
 i21:=by kernel_rfl
 i37:=by kernel_rfl
 i46:=by kernel_rfl
 i51:=by kernel_rfl
 i53:=by kernel_rfl
 i75:=by kernel_rfl
 i76:=by kernel_rfl
 i80:=by kernel_rfl
 i85:=by kernel_rfl
 i127:=by kernel_rfl
 i143:=by kernel_rfl
 i145:=by kernel_rfl
 i167:=by kernel_rfl
 i168:=by kernel_rfl
 i171:=by kernel_rfl
 i173:=by kernel_rfl
 i175:=by kernel_rfl
 i210:=by kernel_rfl
 i212:=by kernel_rfl
 i232:=by kernel_rfl
 i233:=by kernel_rfl
 m15:=by kernel_rfl
 m16:=by kernel_rfl
 m17:=by kernel_rfl
 m18:=by kernel_rfl
 m19:=by kernel_rfl
 c0:=by kernel_rfl
 c2:=by kernel_rfl
 c3:=by kernel_rfl
 c4:=by kernel_rfl
 c5:=by kernel_rfl
 c9:=by kernel_rfl
 c20:=by kernel_rfl
 c21:=by kernel_rfl
 c37:=by kernel_rfl
 c46:=by kernel_rfl
 c51:=by kernel_rfl
 c53:=by kernel_rfl
 c75:=by kernel_rfl
 c76:=by kernel_rfl
 c80:=by kernel_rfl
 c85:=by kernel_rfl
 c127:=by kernel_rfl
 c143:=by kernel_rfl
 c145:=by kernel_rfl
 c167:=by kernel_rfl
 c168:=by kernel_rfl
 c171:=by kernel_rfl
 c173:=by kernel_rfl
 c175:=by kernel_rfl
 c210:=by kernel_rfl
 c212:=by kernel_rfl
 c213:=by kernel_rfl
 c232:=by kernel_rfl
 c233:=by kernel_rfl}
end Go.Proofs

/-
 Plain law, no program in sight: programs of steps and events as bytes (chapters 12 and 13).
-/
set_option maxRecDepth 100000
set_option linter.unusedVariables false
set_option linter.unusedSimpArgs false
namespace Go.Lf
open Go
abbrev bl(s:ByteArray):List UInt8:=s.data.toList
theorem Be(s:ByteArray):(bl s).length=s.size:=ABl s
theorem IU(l:List UInt8):bl (AY l)=l:=Cz l
def GV(s:ByteArray):Bool:=decide (1≤s.size∧s.size≤16∧ ∀c∈bl s,33≤c.toNat∧c.toNat≤126)
theorem IZ {s:ByteArray}:GV s=true↔1≤s.size∧s.size≤16∧ ∀c∈bl s,33≤c.toNat∧c.toNat≤126:=by simp[GV]
structure Stp where
 kind:Int
 name:ByteArray
 undo:ByteArray
 tries:Int
 undoTries:Int
 wait:Int
def Stp.cells(x:Stp):Array Value:= #[.int .i64 x.kind,.string x.name,.string x.undo,.int .i64 x.tries,.int .i64 x.undoTries,.int .i64 x.wait]
abbrev ANi:ByteArray:=⟨#[]⟩
structure Prg where
 steps:List Stp
 limit:Int
end Go.Lf

/-
 Names of numbered files, and bytes read frame by frame.
-/
set_option maxRecDepth 100000
set_option linter.unusedVariables false
set_option linter.unusedSimpArgs false
namespace Go.Lf
open Go
def Lt(n:Nat):List UInt8:=Lib.repeatL [48] (8-(Lib.decDigits n).length)++Lib.decDigits n
def Pe(a:Nat)(l:List UInt8):Nat:=l.foldl (fun a c=>a*10+(c.toNat-48)) a
def Dig(l:List UInt8):Prop:= ∀c∈l,48≤c.toNat∧c.toNat≤57
theorem Xk {d:Nat}(h:d<10):(UInt8.ofNat (48+d)).toNat=48+d:=by
 simp only[UInt8.toNat_ofNat']
 omega
theorem UH: ∀n:Nat,Dig (Lib.decDigits n)∧Pe 0 (Lib.decDigits n)=n:=by
 intro n
 induction n using Nat.strongRecOn with
 |ind n ih=>
  by_cases h:n<10
  ·rw [Lib.decDigits,dif_pos h]
   refine⟨fun c hc=>?_,?_⟩
   ·rw [List.mem_singleton.1 hc,Xk h];omega
   ·simp only[Pe,List.foldl_cons,List.foldl_nil,Xk h];omega
  ·rw [Lib.decDigits,dif_neg h]
   obtain⟨h1,h2⟩:=ih (n / 10) (by omega)
   have h3:n % 10<10:=Nat.mod_lt _ (by decide)
   refine⟨fun c hc=>?_,?_⟩
   ·rcases List.mem_append.1 hc with hc|hc
    ·exact h1 c hc
    ·rw [List.mem_singleton.1 hc,Xk h3];omega
   ·unfold Pe at h2 ⊢
    rw[List.foldl_append,h2]
    simp only[List.foldl_cons,List.foldl_nil,Xk h3];omega
theorem WP: ∀k:Nat,Dig (Lib.repeatL [48] k)∧ ∀l,Pe 0 (Lib.repeatL [48] k++l)=Pe 0 l
 |0=>⟨fun c hc=>(by cases hc),fun l=>rfl⟩
 |k+1=>by
  obtain⟨h1,h2⟩:=WP k
  refine⟨fun c hc=>?_,fun l=>?_⟩
  ·rcases List.mem_append.1 hc with hc|hc
   ·rw [List.mem_singleton.1 hc];decide
   ·exact h1 c hc
  ·show Pe 0 (([48]++Lib.repeatL [48] k)++l)=_
   rw[List.append_assoc]
   exact h2 l
theorem Yw(n:Nat):Dig (Lt n)∧Pe 0 (Lt n)=n:=by
 refine⟨fun c hc=>?_,?_⟩
 ·rcases List.mem_append.1 hc with hc|hc
  ·exact(WP _).1 c hc
  ·exact(UH n).1 c hc
 ·exact((WP _).2 _).trans (UH n).2
theorem AB7: ∀(l:List UInt8) (a:Nat),a≤Pe a l
 | [],a=>Nat.le_refl _
 |c::l,a=>by
  have:=AB7 l (a*10+(c.toNat-48))
  have h:Pe a (c::l)=Pe (a*10+(c.toNat-48)) l:=rfl
  rw[h];omega
theorem ABr: ∀(l:List UInt8) (a:Nat),Dig l→Pe a l≤4294967295→Lib.parseUintM 4294967295 a l= .ok (Pe a l)
 | [],a,_,_=>rfl
 |c::l,a,hd,hv=>by
  have h:Pe a (c::l)=Pe (a*10+(c.toNat-48)) l:=rfl
  rw[h] at hv ⊢
  have hc:=hd c (by simp)
  have hg:=AB7 l (a*10+(c.toNat-48))
  unfold Lib.parseUintM
  rw[if_pos hc,if_neg (by omega),if_neg (by omega)]
  exact ABr l _ (fun x hx=>hd x (List.mem_cons_of_mem _ hx)) hv
theorem AE3: ∀(l:List UInt8) (a:Nat) {u:Nat},a≤4294967295→Lib.parseUintM 4294967295 a l= .ok u→u≤4294967295
 | [],a,u,h,hp=>by
  unfold Lib.parseUintM at hp
  injection hp with hp
  omega
 |c::l,a,u,h,hp=>by
  unfold Lib.parseUintM at hp
  split at hp
  ·split at hp
   ·cases hp
   ·split at hp
    ·cases hp
    ·exact AE3 l _ (by omega) hp
  ·cases hp
theorem AAC {n:Nat}(h:n≤4294967295):Lib.parseUintB 32 (Lt n)= .ok n:=by
 obtain⟨h1,h2⟩:=Yw n
 have hne:Lt n≠ []:=by
  intro he
  have hz:Lib.decDigits n= []:=(List.append_eq_nil_iff.1 he).2
  have hl:=congrArg List.length hz
  rw[Lib.decDigits_length] at hl
  have:=Lib.nDigits_pos n
  simp at hl;omega
 unfold Lib.parseUintB
 rw[if_neg hne]
 have:=ABr (Lt n) 0 h1 (by rw[h2];exact h)
 rw[h2] at this
 exact this
theorem AKG {n k:Nat}(h:Lt n=Lt k):n=k:=by
 have h1:=(Yw n).2
 rw[h,(Yw k).2] at h1
 exact h1.symm
theorem AFp {k:Nat}: ∀ {n:Nat},n<10^(k+1)→Lib.nDigits n≤k+1:=by
 induction k with
 |zero=>intro n h;rw[Lib.nDigits_small (by simpa using h)];omega
 |succ k ih=>
  intro n h
  by_cases hn:n<10
  ·rw [Lib.nDigits_small hn];omega
  ·rw [Lib.nDigits_big hn]
   have:=ih (n:=n / 10) (by rw[Nat.pow_succ] at h;omega)
   omega
theorem AEz {n:Nat}(h:n≤99999999):(Lt n).length=8:=by
 have h1:=AFp (k:=7) (n:=n) (by have:(10:Nat)^(7+1)=100000000:=(by decide);omega)
 simp only[Lt,List.length_append,Lib.repeatL_length,Lib.decDigits_length,List.length_singleton]
 omega
theorem AGJ {n:Nat}(h:(Lt n).length=8):n≤99999999:=by
 have h1:Lib.nDigits n≤8:=by
  simp only[Lt,List.length_append,Lib.repeatL_length,Lib.decDigits_length,List.length_singleton] at h
  omega
 have h2:=Lib.lt_pow_nDigits n
 have h3:(10:Nat)^Lib.nDigits n≤10^8:=Nat.pow_le_pow_right (by decide) h1
 have:(10:Nat)^8=100000000:=by decide
 omega
def fnB(nm:ByteArray)(n:Nat):ByteArray:=nm++AY (Lt n)
theorem Oe(nm:ByteArray)(n:Nat):bl (fnB nm n)=bl nm++Lt n:=by
 show(nm++AY (Lt n)).data.toList=nm.data.toList++Lt n
 rw[ByteArray.data_append,Array.toList_append];exact congrArg _ (Cz _)
theorem GZ {nm:ByteArray}{n k:Nat}(h:fnB nm n=fnB nm k):n=k:=by
 have h1:=congrArg bl h
 rw[Oe,Oe] at h1
 exact AKG (List.append_cancel_left h1)
theorem AKM {nm:ByteArray}{n:Nat}(h:n≤99999999):(fnB nm n).size=nm.size+8:=by
 rw[fnB,ByteArray.size_append,AQ,AEz h]
inductive KY:List UInt8→List (List UInt8)→Prop
 |stop {l:List UInt8} (h:(FM l).1≠0):KY l []
 |step {l:List UInt8} {rs:List (List UInt8)} (h:(FM l).1=0) (s:KY (FM l).2.2 rs):KY l ((FM l).2.1::rs)
theorem Vp {l:List UInt8}(h:(FM l).1=0):(FM l).2.1.length+(FM l).2.2.length<l.length:=by
 unfold FM at h ⊢
 cases hg:Kc 0 0 l with
 |none=>rw[hg] at h;dsimp only at h;split at h<;>cases h
 |some p=>
  obtain⟨n,t⟩:=p
  rw[hg] at h
  obtain⟨e,_⟩:=AHM hg
  have ht:t.length≤l.length:=by rw[e];simp
  dsimp only at h ⊢
  split at h
  ·cases h
  ·rename_i h1
   split at h
   ·cases h
   ·rename_i h2
    split at h
    ·rename_i h3
     rw[if_neg h1,if_neg h2,if_pos h3]
     simp only[List.length_take,List.length_drop]
     omega
    ·cases h
theorem ACp: ∀(k:Nat) (l:List UInt8),l.length≤k→ ∃rs,KY l rs∧(rs.map (·.length+1)).sum≤l.length
 |0,l,h=>by
  have:l= []:=List.eq_nil_of_length_eq_zero (by omega)
  subst this
  exact⟨[],.stop (by decide),by simp⟩
 |k+1,l,h=>by
  by_cases hn:(FM l).1=0
  ·have h1:=Vp hn
   obtain⟨rs,h2,h3⟩:=ACp k (FM l).2.2 (by omega)
   exact⟨_,.step hn h2,by simp only[List.map_cons,List.sum_cons];omega⟩
  ·exact⟨[],.stop hn,by simp⟩
theorem KY.uniq {l:List UInt8}{rs ts:List (List UInt8)}(h:KY l rs):KY l ts→rs=ts:=by
 induction h generalizing ts with
 |stop h=>
  intro h2
  cases h2 with
  |stop=>rfl
  |step h3=>exact absurd h3 h
 |step h s ih=>
  intro h2
  cases h2 with
  |stop h3=>exact absurd h h3
  |step h3 s3=>rw[ih s3]
noncomputable def ABS (l:List UInt8):List (List UInt8):=(ACp l.length l (Nat.le_refl _)).choose
theorem ZZ(l:List UInt8):KY l (ABS l):=(ACp l.length l (Nat.le_refl _)).choose_spec.1
theorem AKb {l:List UInt8}{rs:List (List UInt8)}(h:KY l rs):ABS l=rs:=(ZZ l).uniq h
abbrev wraps(rs:List (List UInt8)):List UInt8:=rs.flatMap CE
theorem O0 {rs:List (List UInt8)}(hs: ∀r∈rs,r.length≤1048576){t:List UInt8}(ht:(FM t).1≠0):KY (wraps rs++t) rs:=by
 induction rs with
 |nil=>exact .stop ht
 |cons r rs ih=>
  have h1:=ABB (l:=r) (hs r (by simp)) (wraps rs++t)
  have e:wraps (r::rs)++t=CE r++(wraps rs++t):=by simp
  rw[e]
  have:=KY.step (l:=CE r++(wraps rs++t)) (rs:=rs) (by rw[h1]) (by rw[h1];exact ih fun x hx=>hs x (List.mem_cons_of_mem _ hx))
  rw[h1] at this
  exact this
theorem Qr:(FM []).1≠0:=by decide
theorem AIl {r:List UInt8}(hr:r.length≤1048576){n:Nat}(hn:n<(CE r).length):(FM ((CE r).take n)).1≠0:=by
 have hq:(CE r).take n++(CE r).drop n=CE r:=List.take_append_drop _ _
 have hql:((CE r).drop n).length≠0:=by rw[List.length_drop];omega
 generalize (CE r).take n=p at*
 generalize (CE r).drop n=q at*
 unfold FM
 cases hg:Kc 0 0 p with
 |none=>dsimp only;split<;>simp
 |some z=>
  obtain⟨k,t⟩:=z
  obtain⟨e,hk⟩:=AHM hg
  have h1:Kc 0 0 (CE r)=some (k,t++q):=by rw[← hq,e,List.append_assoc];exact LU hk _
  have h2:Kc 0 0 (CE r)=some (r.length,OC (AEV r)++r):=by unfold CE;rw[List.append_assoc];exact LU (by omega) _
  rw[h1] at h2
  obtain⟨rfl,h3⟩:=Prod.mk.inj (Option.some.inj h2)
  have h4:=congrArg List.length h3
  simp only[List.length_append,Iq] at h4
  dsimp only
  rw[if_neg (by omega),if_pos (by omega)]
  simp
theorem GH {r:List UInt8}(h:r.length≤1048576):r.length+5≤(CE r).length∧(CE r).length≤r.length+14:=by
 have h1:=Af (n:=r.length) (by omega)
 have h2:1≤(CK r.length).length:=by
  rw[CK];split<;>simp
 simp only[CE,List.length_append,Iq]
 omega
end Go.Lf

/-
 Contracts: a log's files' names (chapter 4).
-/
set_option maxRecDepth 100000
set_option linter.unusedVariables false
set_option linter.unusedSimpArgs false
namespace Go.Lf.G
open Go
def Xc:String:=Proofs.YtdmlhpjdmgaggaaGreatDoor.Rows.casWinnerRow.named.getD 2 (String.ofList [])
def Tab(h:Heap):Prop:= ∀(A:Amb) (n:Nat),Lib.TabIs P (A.at h n) Xc .u64 Lib.pow10Tab
theorem Tab.ext {h h':Heap}(t:Tab h)(x:Ext h h'):Tab h':=by
 intro A n
 have h1:=(Lib.tabBelow_of_tabIs (t A n)) (A.at h' n) ⟨rfl,rfl,rfl,x.size,fun k hk=>x.get k hk (fun h=>h)⟩
 exact h1
def AA8(h:Heap)(g:Nat):Prop:= ∃ev,hget h ⟨g,0,none⟩=some ev∧(ev= .nilIface∨ ∃te pe,ev= .iface te pe)
theorem AA8.ext {h h':Heap}{g:Nat}(e:AA8 h g)(x:Ext h h'):AA8 h' g:=by
 obtain⟨ev,h1,h2⟩:=e
 exact⟨ev,x.hget h1,h2⟩
structure Evn (h:Heap):Prop where
 tab:Tab h
 syn:AA8 h (Proofs.Tryz.laysPu14_ren.g 0)
 rng:AA8 h (Proofs.Tryz.laysPu14_ren.g 1)
theorem Evn.ext {h h':Heap}(e:Evn h)(x:Ext h h'):Evn h':=⟨e.tab.ext x,e.syn.ext x,e.rng.ext x⟩
theorem YN {A:Amb}{h:Heap}{n:Nat}{w:World}(b:RowKit.Below h.size (A.at h n) w):w=A.at w.heap w.drawn∧Ext h w.heap:=by
 obtain⟨h1,h2,h3,h4,h5⟩:=b
 refine⟨?_,⟨h4,fun c hc _=>h5 c hc⟩⟩
 cases w
 simp only[Amb.at] at h1 h2 h3 ⊢
 subst h1 h2 h3
 rfl
theorem ABW {A:Amb}{h:Heap}{n:Nat}{a:Addr}{v:Value}(e:hget h a=some v):(A.at h n).cell? a=some v:=by
 unfold hget at e
 unfold World.cell?
 exact e
theorem AHi {A:Amb}{h:Heap}{n:Int}{R:Value→Heap→Prop}(t:Tab h)(h0: -9223372036854775808≤n)(h1:n≤9223372036854775807)(H: ∀h',Ext h h'→R (.string ⟨(Lib.itoa n).toArray⟩) h'):
  AA A P MQ #[.int .i64 n] h R:=by
 intro m
 refine Calls.mono (Proofs.Any.strconv_Itoa Proofs.Tryz.laysM171 n h0 h1 (A.at h m) (t A m)) ?_
 rintro e w' ⟨rfl,k,os,rfl⟩
 refine⟨_,rfl,h++os,m+k,rfl,H _ ⟨by simp,fun b hb _=>by rw[Array.getElem?_append_left hb]⟩⟩
theorem AH1 {A:Amb}{h:Heap}{s:ByteArray}{c:Nat}{R:Value→Heap→Prop}(hc:c≤8)(hs:s.size≤8)(H: ∀h',Ext h h'→R (.string (AY (Lib.repeatL (bl s) c))) h'):
  AA A P NW #[.string s,.int .i64 c] h R:=by
 intro m
 have hm:s.size*c≤8*8:=Nat.mul_le_mul hs hc
 refine Calls.mono (Proofs.Any.strings_Repeat Proofs.Tryz.lays105 Proofs.Tryz.extra105 s c (A.at h m) (by omega) (by omega)) ?_
 rintro e w' ⟨rfl,hB⟩
 obtain⟨e1,x⟩:=YN hB
 exact⟨_,rfl,w'.heap,w'.drawn,e1,H _ x⟩
theorem ACE {A:Amb}{h:Heap}{s p:ByteArray}{R:Value→Heap→Prop}(H:R (.tuple #[.string (AY (Lib.trimPrefix (bl s) (bl p))),.bool (Lib.hasPrefix (bl s) (bl p))]) h):
  AA A P Km #[.string s,.string p] h R:=by
 intro m
 refine Calls.mono (Proofs.Any.strings_CutPrefix Proofs.Tryz.lays103 s p (A.at h m)) ?_
 rintro e w' ⟨rfl,rfl⟩
 exact⟨_,rfl,h,m,rfl,H⟩
theorem AJm {A:Amb}{h:Heap}{s:ByteArray}{R:Value→Heap→Prop}(E:Evn h)(hs:s.size≤8)
  (H0: ∀u:Nat,Lib.parseUintB 32 (bl s)= .ok u→ ∀h',Ext h h'→R (.tuple #[.int .u64 u,.nilIface]) h')
  (H1:(∀ u,Lib.parseUintB 32 (bl s)≠ .ok u)→ ∀h' (n:Int) t v,Ext h h'→R (.tuple #[.int .u64 n,.iface t v]) h'):
  AA A P Kn #[.string s,.int .i64 10,.int .i64 32] h R:=by
 intro m
 cases hp:Lib.parseUintB 32 (bl s)
 ·rename_i u
  refine Calls.mono (Proofs.Any.strconv_ParseUint_10_at32_ok Proofs.Tryz.laysPu14 s (by omega) u hp (A.at h m)) ?_
  rintro e w' ⟨rfl,hw|hw⟩
  ·subst hw
   exact⟨_,rfl,h,m,rfl,H0 u hp h Mod.refl⟩
  ·subst hw
   refine⟨_,rfl,_,_,rfl,H0 u hp _ ?_⟩
   refine⟨?_,fun b hb _=>?_⟩
   ·simp [Lib.bytesWorld,World.freeze,World.alloc,World.drew,Amb.at]
   ·simp [Lib.bytesWorld,World.freeze,World.alloc,World.drew,Amb.at,Array.getElem?_modify,Array.getElem?_push]
    rw[if_neg (by omega),if_neg (by omega)]
 ·obtain⟨ev,h1,h2⟩:=E.syn
  refine Calls.mono (Proofs.Any.strconv_ParseUint_10_at32_syntax Proofs.Tryz.laysPu14 s (by omega) hp ev (A.at h m) (ABW h1) h2) ?_
  rintro e w' ⟨N,rfl,_,_,hB⟩
  obtain⟨e1,x⟩:=YN hB
  exact⟨_,rfl,w'.heap,w'.drawn,e1,H1 (fun u hu=>by rw[hp] at hu;cases hu) _ _ _ _ x⟩
 ·obtain⟨ev,h1,h2⟩:=E.rng
  refine Calls.mono (Proofs.Any.strconv_ParseUint_10_at32_range Proofs.Tryz.laysPu14 s (by omega) hp ev (A.at h m) (ABW h1) h2) ?_
  rintro e w' ⟨N,rfl,_,_,hB⟩
  obtain⟨e1,x⟩:=YN hB
  exact⟨_,rfl,w'.heap,w'.drawn,e1,H1 (fun u hu=>by rw[hp] at hu;cases hu) _ _ _ _ x⟩
theorem Uc {A:Amb}{h:Heap}{nm:ByteArray}{n:Nat}{R:Value→Heap→Prop}(E:Evn h)(hn:n≤4294967295)(hnm:nm.size≤1099511627776)(H: ∀h',Ext h h'→R (.string (fnB nm n)) h'):
  AA A P Gt #[.string nm,.int .i64 n] h R:=by
 refine AE0 ?_
 unfold SX
 refine AHi E.tab (by omega) (by omega) fun h1 x1=>⟨_,rfl,?_⟩
 have e1:Lib.itoa (n:Int)=Lib.decDigits n:=Lib.itoa_nonneg n
 rw[e1]
 have hl:(⟨(Lib.decDigits n).toArray⟩:ByteArray).size=(Lib.decDigits n).length:=by simp[ByteArray.size]
 have h20:(Lib.decDigits n).length≤20:=by rw[Lib.decDigits_length];exact Lib.nDigits_le20 n (by omega)
 have e2:(if((IntKind.wrap .i64 ((8:Int)-(((⟨(Lib.decDigits n).toArray⟩:ByteArray).size:Nat):Int))):Int)>0 then(IntKind.wrap .i64 ((8:Int)-(((⟨(Lib.decDigits n).toArray⟩:ByteArray).size:Nat):Int))) else 0)=((8-(Lib.decDigits n).length:Nat):Int):=by
  rw[hl,wrap_i64 (by omega) (by omega)]
  split<;>omega
 rw[e2]
 refine AH1 (by omega) (by decide) fun h2 x2=>⟨_,rfl,?_,?_,?_⟩
 ·have:(AY (Lib.repeatL (bl ⟨#[48]⟩) (8-(Lib.decDigits n).length))).size≤8:=by
   rw[AQ,Lib.repeatL_length];simp[bl]
  rw[max_i64];omega
 ·have:(AY (Lib.repeatL (bl ⟨#[48]⟩) (8-(Lib.decDigits n).length))).size≤8:=by
   rw[AQ,Lib.repeatL_length];simp[bl]
  rw[ByteArray.size_append,max_i64,hl];omega
 ·have:=H h2 (x1.trans x2)
  have e3:fnB nm n=(nm++AY (Lib.repeatL (bl ⟨#[48]⟩) (8-(Lib.decDigits n).length)))++⟨(Lib.decDigits n).toArray⟩:=by
   rw[fnB,Lt,←CF,ByteArray.append_assoc];rfl
  rw[e3] at this
  exact this
theorem AIA {A:Amb}{h:Heap}{nm s:ByteArray}{R:Value→Heap→Prop}(E:Evn h)(hnm:nm.size≤1099511627776)(hs:s.size≤1099511627776)
  (H: ∀h' (n:Nat),Ext h h'→(n=0→ ∀k:Nat,1≤k→k≤99999999→s≠fnB nm k)→(n≠0→n≤99999999∧s=fnB nm n)→R (.int .i64 n) h'):
  AA A P LM #[.string nm,.string s] h R:=by
 refine AA5 ?_
 unfold O4
 have none_ok: ∀h',Ext h h'→(∀ k:Nat,1≤k→k≤99999999→s≠fnB nm k)→R (.int .i64 0) h':=fun h' x hk=>H h' 0 x (fun _=>hk) (fun h=>absurd rfl h)
 refine ACE ⟨_,_,rfl,?_⟩
 cases hp:Lib.hasPrefix (bl s) (bl nm) with
 |false=>
  refine Join.mk fun K hK=>PIf.yes rfl (hK _ _ (PIf.yes rfl (none_ok h Mod.refl fun k _ _ e=>?_)))
  subst e
  rw[Oe] at hp
  unfold Lib.hasPrefix at hp
  rw[Bool.eq_false_iff] at hp
  exact hp (List.isPrefixOf_iff_prefix.2 (List.prefix_append _ _))
 |true=>
  have hpre:=hp
  unfold Lib.hasPrefix at hpre
  obtain⟨d,hd⟩:=List.isPrefixOf_iff_prefix.1 hpre
  have ht:Lib.trimPrefix (bl s) (bl nm)=d:=by
   unfold Lib.trimPrefix
   rw[if_pos hp,←hd]
   simp
  rw[ht]
  refine Join.mk fun K hK=>PIf.no rfl ?_
  have bad: ∀b:Bool,b=true→(∀ k:Nat,1≤k→k≤99999999→s≠fnB nm k)→K (b,()) h:=fun b hb hk=>hK _ _ (PIf.yes hb (none_ok h Mod.refl hk))
  have hsz:(AY d).size=d.length:=AQ d
  by_cases h8:d.length=8
  ·refine hK _ _ (PIf.no (by simp[hsz,h8]) ?_)
   have hbl:bl (AY d)=d:=IU d
   refine AJm E (by omega) (fun u hu h1 x1=>⟨_,_,rfl,?_⟩) (fun hu h1 n t v x1=>⟨_,_,rfl,Join.mk fun K1 hK1=>?_⟩)
   ·rw [hbl] at hu
    have hu32:u≤4294967295:=by
     have:Lib.parseUintB 32 d= .ok u:=hu
     unfold Lib.parseUintB at this
     split at this
     ·cases this
     ·exact AE3 d 0 (by omega) this
    have hwu:IntKind.wrap .i64 (u:Int)=(u:Int):=wrap_i64 (by omega) (by omega)
    rw[hwu]
    refine Join.mk fun K1 hK1=>?_
    refine⟨trivial,PIf.no rfl ?_⟩
    refine Uc (E.ext x1) hu32 hnm fun h5 x5=>⟨_,rfl,hK1 _ _ ?_⟩
    have x05:=x1.trans x5
    refine PIf.intro (fun q=>?_) (fun q=>?_)
    ·have q:fnB nm u≠s:=by
      intro e
      have:sEq (fnB nm u) s=true:=by rw[BZ];exact decide_eq_true e
      dsimp only at q
      rw[this] at q;cases q
     refine none_ok h5 x05 fun k _ hk8 e=>q ?_
     have h1:bl s=bl nm++Lt k:=by rw[e,Oe]
     rw[← hd] at h1
     have h2:d=Lt k:=List.append_cancel_left h1
     rw[h2,AAC (by omega)] at hu
     have:k=u:=by injection hu
     rw[← this];exact e.symm
    ·have q:fnB nm u=s:=by
      have q:(!sEq (fnB nm u) s)=false:=q
      have q:sEq (fnB nm u) s=true:=by simpa using q
      rw[BZ] at q
      exact of_decide_eq_true q
     have h1:bl s=bl nm++Lt u:=by rw[← q,Oe]
     rw[← hd] at h1
     have h2:d=Lt u:=List.append_cancel_left h1
     have hu8:u≤99999999:=AGJ (by rw[← h2];exact h8)
     by_cases hu0:u=0
     ·subst hu0
      refine none_ok h5 x05 fun k hk1 _ e=>?_
      have:=GZ (e.symm.trans q.symm)
      omega
     ·exact H h5 u x05 (fun h=>absurd h hu0) fun _=>⟨hu8,q.symm⟩
   ·rw [hbl] at hu
    refine⟨trivial,PIf.yes rfl (hK1 _ _ (PIf.yes rfl (none_ok h1 x1 fun k _ hk8 e=>?_)))⟩
    have h1:bl s=bl nm++Lt k:=by rw[e,Oe]
    rw[← hd] at h1
    have h2:d=Lt k:=List.append_cancel_left h1
    exact hu k (by rw[h2];exact AAC (by omega))
  ·refine bad _ (by simp[hsz];omega) fun k _ hk8 e=>h8 ?_
   have h1:bl s=bl nm++Lt k:=by rw[e,Oe]
   rw[← hd] at h1
   rw[List.append_cancel_left h1,AEz hk8]
end Go.Lf.G

/-
 Rows: arguments opened (any lists), what is asked behind the call.
-/
set_option maxRecDepth 100000
set_option linter.unusedVariables false
set_option linter.unusedSimpArgs false
namespace Go.Lf.G
open Go Go.ChangeShapes Go.WideShapes Go.ChangeAt Go.RowKit Go.Proofs.YtdmlhpjdmgaggaaGreatDoor
theorem YX {H:Type}(d:DataW H):1≤Rows.uptoBulk d:=by
 cases d with
 |lit l=>cases l<;>simp[Rows.uptoBulk]
 |nil=>simp[Rows.uptoBulk]
 |ptr d=>simp[Rows.uptoBulk]
 |slice elems spare=>simp[Rows.uptoBulk]
 |agg parts=>simp[Rows.uptoBulk]
 |iface t d=>simp[Rows.uptoBulk]
 |map entries=>simp[Rows.uptoBulk]
 |held h=>simp[Rows.uptoBulk]
theorem ADs {H:Type}(l:List (DataW H)):l.length≤Rows.uptoBulkAll l:=by
 induction l with
 |nil=>simp[Rows.uptoBulkAll]
 |cons x r ih=>have:=YX x;simp only[Rows.uptoBulkAll,List.length_cons];omega
theorem OD {H:Type}{enc:TypeId×Value→H}{P:Program}(hl:laidOutB P=true){W W':World}{sp:Nat→Bool}: ∀ {ts:List TypeId} {vs:List Value} {ds:List (DataW H)} {ps:List MemPlace},
  (ts.all fun t=>P.readableRec t&&decide (t<P.types.size))=true→DataW.TrodAll enc P W 0 (fun _=>true) true ts vs ds ps→(∀ p∈ps,W.sameAt W' p)→(∀ p∈ps,sp p.block=true)→DataW.TrodAll enc P W' 0 sp true ts vs ds ps
 | [],[],[],_,_,h,_,_=>h
 |t::ts,v::vs,d::ds,_,hr,⟨p,q,h1,h2,e⟩,hs,hsp=>by
  simp only[List.all_cons,Bool.and_eq_true,decide_eq_true_eq] at hr
  subst e
  exact⟨p,q,WideElems.Trod_stays hl hr.1.1 hr.1.2 h1 (fun x hx=>hs x (List.mem_append_left _ hx)) (fun x hx=>hsp x (List.mem_append_left _ hx)),
   OD hl (by simpa using hr.2) h2 (fun x hx=>hs x (List.mem_append_right _ hx)) (fun x hx=>hsp x (List.mem_append_right _ hx)),rfl⟩
def QZ(W:World):Amb:=⟨W.tape,W.os,W.output⟩
theorem QO {H:Type}{enc:TypeId×Value→H}{P:Program}{f:Func}{s:ChangeSpec}{W:World}{args:Array Value}{ds gs:List (DataW H)}{before:List MemPlace}{tb:TypeId}{h':Heap}{n':Nat}
  (hW:DataW.Whole enc P f.params.toList s.vars false W args.toList ds gs before) (hvars:s.vars= []) (hres:(s.fn H (ds++gs)).results= [.lit (.bool true)]) (hargs:(s.fn H (ds++gs)).args=ds) (hvs:(s.fn H (ds++gs)).vars= [])
  (hl:laidOutB P=true) (hp:(f.params.toList.all fun t=>P.readableRec t&&decide (t<P.types.size))=true) (hr:f.resultTypes= #[tb]) (hb:P.underlying tb=some .bool) (x:Ext W.heap h'):
  s.post enc P f false true false false W args (.bool true) ((QZ W).at h' n'):=by
 have hlt:=fun p (hp:p∈before)=>hW.lt p hp
 have hsame: ∀p∈before,W.sameAt ((QZ W).at h' n') p:=fun p hp=>by
  have hb2:h'[p.block]? =W.heap[p.block]? :=x.get _ (hlt p hp) (fun h=>h)
  cases p with
  |cell b off=>
   show hget h' ⟨b,off,none⟩=hget W.heap ⟨b,off,none⟩
   exact MC hb2
  |map b=>exact hb2
 obtain⟨p,q,hA,hV,rfl,hz,hn⟩:=id hW
 rw[hvars] at hV
 have hgs:gs= []∧q= []:=by
  cases gs with
  |nil=>exact⟨rfl,hV⟩
  |cons _ _=>exact hV.elim
 obtain⟨rfl,rfl⟩:=hgs
 refine⟨ds,[],p++ [],[],p,[],hW,?_,?_,?_,?_,fun h=>by cases h⟩
 ·rw [hres,hr]
  exact⟨[],[],⟨1,by simp[DataW.trod,Value.cells,hb]⟩,rfl,rfl⟩
 ·rw [hargs]
  exact OD hl hp hA (fun y hy=>hsame y (List.mem_append_left _ hy)) (fun y hy=>by simpa using hlt y (List.mem_append_left _ hy))
 ·rw [hvars,hvs];rfl
 ·refine⟨rfl,rfl,fun i hi=>?_⟩
  have e:((QZ W).at h' n').heap[i]? =W.heap[i]? :=x.get i hi (fun h=>h)
  rw[e]
  cases h1:W.heap[i]? with
  |none=>trivial
  |some o=>
   cases o with
   |cells c t fr=>exact⟨rfl,rfl,rfl,fun _ _=>rfl⟩
   |map es clock=>exact .inr ⟨rfl,rfl⟩
   |_=>rfl
theorem laid:laidOutB P=true:=by kernel_rfl
section
variable {H : Type} {enc : TypeId × Value → H} {w : World} {base : Nat} {spare : Nat → Bool} {held : Bool}
theorem ACA {α:Type}{E:Enc α}{Q:α→DataW H→Prop}{tS t:TypeId}(hT:P.underlying tS=some (.slice t))(hc:P.cellsOf t=E.w)
  (hel: ∀n cs x,DataW.trod enc P w base spare held n t cs=some x→ ∃y:α,cs=E.enc y∧Q y x.1) {n:Nat} {p:Option Addr} {len cap:Nat} {x:DataW H×List MemPlace} (h:DataW.trod enc P w base spare held n tS [.slice p len cap]=some x):
  ∃(l:List α) (ds:List (DataW H)),View E w.heap ⟨p,len,cap⟩ l∧l.length=ds.length∧(∀ (i:Nat) y d,l[i]? =some y→ds[i]? =some d→Q y d)∧Rows.uptoBulkAll ds+1≤Rows.uptoBulk x.1:=by
 rcases Deep.open_slice hT h with⟨h0,rfl⟩|⟨a,len',cap',m,n',D,Pl,h0,_,hl,_,hm,rfl,hx⟩
 ·simp at h0
  obtain⟨rfl,rfl,rfl⟩:=h0
  exact⟨[],[],View.nil,rfl,by simp,by simp[Rows.uptoBulk,Rows.uptoBulkAll]⟩
 ·simp at h0
  obtain⟨rfl,rfl,rfl⟩:=h0
  have hlm:len≤m:=by rw[hm];split<;>omega
  rw[hc] at hx
  have: ∀i,i<len→ ∃y:α,Cells w.heap (a.add (i*E.w)) (E.enc y)∧Q y (D i):=fun i hi=>by
   obtain⟨cs',h1,h2⟩:=hx i (by omega)
   obtain⟨y,rfl,hq⟩:=hel _ _ _ h2
   obtain⟨_,hlen,hcc⟩:=World.cells?_some h1
   refine⟨y,fun j v hj=>?_,hq⟩
   have hj3:j<E.w:=by rw[← E.len y];exact(List.getElem?_eq_some_iff.1 hj).1
   have:=hcc j hj3
   rw[hj] at this
   exact this
  by_cases hlen:len=0
  ·subst hlen
   refine⟨[],[],⟨rfl,hl,fun i y hi=>by simp at hi⟩,rfl,by simp,?_⟩
   simp[Rows.uptoBulk,Rows.uptoBulkAll]
  ·obtain⟨y0,_⟩:=this 0 (by omega)
   have: ∃f:Nat→α,∀i,i<len→Cells w.heap (a.add (i*E.w)) (E.enc (f i))∧Q (f i) (D i):=
    ⟨fun i=>if hi:i<len then Classical.choose (this i hi) else y0,fun i hi=>by simp only[dif_pos hi];exact Classical.choose_spec (this i hi)⟩
   obtain⟨f,hf⟩:=this
   refine⟨(List.range len).map f,(List.range len).map D,⟨by simp,hl,fun i y hi=>?_⟩,by simp,fun i y d h1 h2=>?_,?_⟩
   ·simp only[List.getElem?_map] at hi
    by_cases hil:i<len
    ·simp [hil] at hi
     subst hi
     exact⟨a,rfl,(hf i hil).1⟩
    ·simp [Nat.not_lt.1 hil] at hi
   ·simp only[List.getElem?_map] at h1 h2
    by_cases hil:i<len
    ·simp [hil] at h1 h2
     subst h1;subst h2
     exact(hf i hil).2
    ·simp [Nat.not_lt.1 hil] at h1
   ·simp only[Rows.uptoBulk]
    omega
end
theorem Zr {H α:Type}{Q:α→DataW H→Prop}{l:List α}{ds:List (DataW H)}(hl:l.length=ds.length)(hq: ∀(i:Nat) y d,l[i]? =some y→ds[i]? =some d→Q y d){y:α}(hy:y∈l): ∃d∈ds,Q y d:=by
 obtain⟨i,hi,rfl⟩:=List.getElem_of_mem hy
 have hi2:i<ds.length:=by omega
 exact⟨ds[i],List.getElem_mem hi2,hq i _ _ (List.getElem?_eq_getElem hi) (List.getElem?_eq_getElem hi2)⟩
theorem AA9:P.underlying BL=some (.int .i64):=by kernel_rfl
theorem Qv:P.underlying Je=some .bool:=by kernel_rfl
theorem Yr:P.underlying Ad=some .string:=by kernel_rfl
theorem AHK:P.underlying Bv=some (.slice BL):=by kernel_rfl
theorem ALM:P.cellsOf Ad=1:=by kernel_rfl
theorem ANQ:P.cellsOf BL=1:=by kernel_rfl
theorem wf_i64 {n:Int}(h:(Lit.int .i64 n).wf=true): -9223372036854775808≤n∧n≤9223372036854775807:=by
 simp[Lit.wf,IntKind.min,IntKind.max,IntKind.bits,IntKind.signed] at h
 omega
section
variable {H : Type} {enc : TypeId × Value → H} {w : World} {base : Nat} {spare : Nat → Bool} {held : Bool}
theorem open_ints {n:Nat}{p:Option Addr}{len cap:Nat}{x:DataW H×List MemPlace}(h:DataW.trod enc P w base spare held n Bv [.slice p len cap]=some x):
  ∃l:List Int,View Eg w.heap ⟨p,len,cap⟩ l∧l.length+1≤Rows.uptoBulk x.1∧ ∀n∈l,-9223372036854775808≤n∧n≤9223372036854775807:=by
 obtain⟨l,ds,V,hl,hq,hb⟩:=ACA (E:=Eg) (Q:=fun y d=> -9223372036854775808≤y∧y≤9223372036854775807) AHK ANQ (fun n cs x hx=>by
  obtain⟨s,h1,h2,h3⟩:=DataW.trod_int AA9 hx
  exact⟨s,h1,wf_i64 h3⟩) h
 have:=ADs ds
 exact⟨l,V,by omega,fun n hn=>by obtain⟨_,_,h⟩:=Zr hl hq hn;exact h⟩
end
theorem Ub {H:Type}{enc:TypeId×Value→H}{W:World}{base:Nat}{v:Value}{d:DataW H}{ps:List MemPlace}(hv:Value.okWide P W .any base Bv v)(h:DataW.Trod enc P W 0 (fun _=>true) true Bv v d ps):
  ∃(s:Sl) (l:List Int),v= .slice s.p s.len s.cap∧View Eg W.heap s l∧l.length+1≤Rows.uptoBulk d∧ ∀n∈l,-9223372036854775808≤n∧n≤9223372036854775807:=by
 obtain⟨p,len,cap,rfl⟩:=okWide_slice AHK hv
 obtain⟨n,hn⟩:=h
 obtain⟨l,h1,h2⟩:=open_ints hn
 exact⟨⟨p,len,cap⟩,l,rfl,h1,h2⟩
end Go.Lf.G

/-
 A filter of keys, bit by bit (chapter 6): plain law.
-/
set_option maxRecDepth 100000
set_option linter.unusedVariables false
set_option linter.unusedSimpArgs false
namespace Go.Lf
open Go
def xK(k:ByteArray)(i:Nat):Nat:=(AHq k+i*AHS k) % 4294967296
def prb(k:ByteArray)(m i:Nat):Nat:=xK k i % (8*m)
def PW(f:List UInt8)(a:Nat):Bool:=((f[a / 8]?).getD 0).toNat.testBit (a % 8)
def XZ(f:List UInt8)(a:Nat):List UInt8:=f.set (a / 8) (DU (((f[a / 8]?).getD 0).toNat ||| 2^(a % 8)))
theorem AJs(f:List UInt8)(a:Nat):(XZ f a).length=f.length:=by simp[XZ]
theorem AL9 {c j:Nat}(hc:c<256)(hj:j<8):c ||| 2^j<256:=by
 have h1:2^j<2^8:=Nat.pow_lt_pow_right (by decide) hj
 have:c ||| 2^j<2^8:=Nat.or_lt_two_pow (by simpa using hc) h1
 simpa using this
theorem ALg {f:List UInt8}{a:Nat}(ha:a / 8<f.length)(x:Nat):PW (XZ f a) x=(PW f x||decide (x=a)):=by
 unfold PW XZ
 have hj:a % 8<8:=Nat.mod_lt _ (by decide)
 by_cases hx:x / 8=a / 8
 ·rw [hx,List.getElem?_set_self ha,Option.getD_some,ET (AL9 (UInt8.toNat_lt _) hj),Nat.testBit_or,Nat.testBit_two_pow]
  congr 1
  rw[Bool.eq_iff_iff,decide_eq_true_iff,decide_eq_true_iff]
  omega
 ·rw [List.getElem?_set_ne (by omega)]
  have:x≠a:=fun e=>hx (by rw[e])
  simp[this]
def Uh(m:Nat)(f:List UInt8)(k:ByteArray):List UInt8:=(List.range 4).foldl (fun f i=>XZ f (prb k m i)) f
theorem AGd {k:ByteArray}{m i:Nat}(hm:1≤m):prb k m i<8*m:=Nat.mod_lt _ (by omega)
theorem QK {k:ByteArray}{m:Nat}(hm:1≤m): ∀(l:List Nat) (f:List UInt8),f.length=m→(l.foldl (fun f i=>XZ f (prb k m i)) f).length=m∧ ∀x,PW (l.foldl (fun f i=>XZ f (prb k m i)) f) x=(PW f x||l.any fun i=>decide (x=prb k m i))
 | [],f,h=>⟨h,fun x=>by simp⟩
 |i::l,f,h=>by
  have h1:prb k m i / 8<f.length:=by have:=AGd (k:=k) (i:=i) hm;omega
  obtain⟨h2,h3⟩:=QK (k:=k) hm l (XZ f (prb k m i)) (by rw[AJs,h])
  refine⟨h2,fun x=>?_⟩
  rw[List.foldl_cons,h3,ALg h1,List.any_cons,Bool.or_assoc]
theorem AKW {k:ByteArray}{m:Nat}(hm:1≤m){f:List UInt8}(h:f.length=m):(Uh m f k).length=m:=(QK hm _ f h).1
theorem AKZ {k:ByteArray}{m:Nat}(hm:1≤m){f:List UInt8}(h:f.length=m){x:Nat}(hx:PW f x=true):PW (Uh m f k) x=true:=by
 unfold Uh;rw[(QK hm _ f h).2,hx];rfl
theorem AJL {k:ByteArray}{m:Nat}(hm:1≤m){f:List UInt8}(h:f.length=m){i:Nat}(hi:i<4):PW (Uh m f k) (prb k m i)=true:=by
 unfold Uh
 rw[(QK hm _ f h).2,Bool.or_eq_true]
 right
 rw[List.any_eq_true]
 exact⟨i,List.mem_range.2 hi,by simp⟩
def KS(m:Nat):List UInt8:=List.replicate m 0
def Ym(ks:List ByteArray)(m:Nat):List UInt8:=ks.foldl (Uh m) (KS m)
def ALD(f:List UInt8)(k:ByteArray):Bool:=(List.range 4).all fun i=>PW f (prb k f.length i)
def X0(f:List UInt8)(k:ByteArray):Bool:=decide (f≠ [])&&decide (f.length≤8192)&&ALD f k
theorem RL {m:Nat}(hm:1≤m): ∀(ks:List ByteArray) (f:List UInt8),f.length=m→(ks.foldl (Uh m) f).length=m∧(∀ x,PW f x=true→PW (ks.foldl (Uh m) f) x=true)∧ ∀k∈ks,∀i,i<4→PW (ks.foldl (Uh m) f) (prb k m i)=true
 | [],f,h=>⟨h,fun x hx=>hx,fun k hk=>by cases hk⟩
 |k::ks,f,h=>by
  have h1:=AKW (k:=k) hm h
  obtain⟨h2,h3,h4⟩:=RL hm ks (Uh m f k) h1
  refine⟨h2,fun x hx=>h3 x (AKZ hm h hx),fun k' hk' i hi=>?_⟩
  rcases List.mem_cons.1 hk' with rfl|hk'
  ·exact h3 _ (AJL hm h hi)
  ·exact h4 k' hk' i hi
theorem AJK {ks:List ByteArray}{m:Nat}(hm:1≤m)(h8:m≤8192){k:ByteArray}(hk:k∈ks):X0 (Ym ks m) k=true:=by
 obtain⟨h1,_,h3⟩:=RL hm ks (KS m) (by simp[KS])
 have h1:(Ym ks m).length=m:=h1
 unfold X0 ALD
 rw[h1,Bool.and_eq_true,Bool.and_eq_true,decide_eq_true_iff,decide_eq_true_iff,List.all_eq_true]
 refine⟨⟨fun e=>?_,h8⟩,fun i hi=>h3 k hk i (List.mem_range.1 hi)⟩
 rw[e] at h1;simp at h1;omega
theorem AJT {ks:List ByteArray}{m:Nat}(hm:1≤m):(Ym ks m).length=m:=(RL hm ks (KS m) (by simp[KS])).1
end Go.Lf

/-
 Rows made by make; a table's filter, bit by bit.
-/
set_option maxRecDepth 100000
set_option linter.unusedVariables false
set_option linter.unusedSimpArgs false
namespace Go.Lf
open Go
theorem AKV(v:Value)(n:Nat):(madeCells #[v] n).toList=List.replicate n v:=by
 apply List.ext_getElem
 ·simp [madeCells]
 ·intro i h1 h2
  simp[madeCells,Nat.mod_one]
theorem AEO {α:Type}{E:Enc α}{x0:α}{v:Value}(hx:E.enc x0= [v]): ∀n,(List.replicate n x0).flatMap E.enc=List.replicate n v
 |0=>rfl
 |n+1=>by rw[List.replicate_succ,List.replicate_succ,List.flatMap_cons,hx,AEO hx n];rfl
theorem ALQ {A:Amb}{P:Program}{α:Type}{E:Enc α}{x0:α}{v z:Value}{t T:TypeId}{B:Nat}(ht:P.underlying t=some (.slice T))(hi:(P.info? T).map (fun i=>(i.zero,i.size,i.bytes))=some (some z,1,B))
  (hz:z.cells= #[v]) (hw:E.w=1) (hx:E.enc x0= [v]) {h:Heap} {n:Nat} {kl kc:IntKind} (hn:n*B≤140737488355328) (hm:n≤maxLen) {K:Sl→Heap→Prop}
  (H: ∀h',Own E T h' ⟨some ⟨h.size,0,none⟩,n,n⟩ (List.replicate n x0)→Ext h h'→h'.size=h.size+1→K ⟨some ⟨h.size,0,none⟩,n,n⟩ h'):
  BK A P (Instr.makeSlice t (.int kl (n:Int)) (.int kc (n:Int))) h fun v h'=> ∃s:Sl,v= .slice s.p s.len s.cap∧K s h':=by
 intro d
 cases hi0:P.info? T with
 |none=>rw[hi0] at hi;simp at hi
 |some i=>
  rw[hi0] at hi
  simp only[Option.map_some,Option.some.injEq,Prod.mk.injEq] at hi
  obtain⟨h1,h2,h3⟩:=hi
  have hB:((i.bytes:Nat):Int)*((n:Nat):Int)≤281474976710656:=by
   rw[h3,←Int.natCast_mul,Nat.mul_comm];omega
  have hr:=run_make (P:=P) (A.at h d) t T i z ht hi0 h1 kl kc (n:Int) (n:Int) (by omega) (Int.le_refl _) hB (by simp only[maxLen] at hm;omega)
  simp only[Int.toNat_natCast,h2,Nat.mul_one,hz] at hr
  refine⟨_,h.push (.cells (madeCells #[v] n) T),d,hr,⟨some ⟨h.size,0,none⟩,n,n⟩,rfl,H _ ⟨by simp,.inr ⟨h.size,madeCells #[v] n,rfl,by simp,Nat.le_refl _,hm,by simp[size_madeCells,hw],?_⟩⟩ (Mod.push h _) (by simp)⟩
  show(madeCells #[v] n).toList.take (n*E.w)=_
  rw[AKV,hw,Nat.mul_one,List.take_of_length_le (by simp),AEO hx]
theorem ABD {m:Nat}(h:m≤8192):IntKind.wrap .u32 (IntKind.wrap .i64 ((8:Int)*((m:Nat):Int)))=((8*m:Nat):Int):=by
 rw[show(8:Int)*((m:Nat):Int)=((8*m:Nat):Int) by omega,Fy (by omega),wrap_u32,Nat.mod_eq_of_lt (by omega)]
theorem ANa(k:ByteArray)(i:Nat):xK k i<4294967296:=Nat.mod_lt _ (by decide)
theorem AHA(k:ByteArray)(i:Nat):IntKind.wrap .u32 (((xK k i:Nat):Int)+((AHS k:Nat):Int))=((xK k (i+1):Nat):Int):=by
 rw[← Int.natCast_add,wrap_u32]
 congr 1
 unfold xK
 rw[Nat.mod_add_mod,Nat.add_mul,Nat.one_mul,Nat.add_assoc]
theorem AHX(k:ByteArray):xK k 0=AHq k:=by unfold xK;rw[Nat.zero_mul,Nat.add_zero,Nat.mod_eq_of_lt (AJl k)]
theorem AGn(x m:Nat):((x:Nat):Int).tmod ((m:Nat):Int)=((x % m:Nat):Int):=(Int.ofNat_tmod x m).symm
theorem AHD(x:Nat):((x:Nat):Int).tdiv (8:Int)=((x / 8:Nat):Int):=(Int.ofNat_tdiv x 8).symm
theorem AHF(x:Nat):((x:Nat):Int).tmod (8:Int)=((x % 8:Nat):Int):=(Int.ofNat_tmod x 8).symm
theorem AFD(x:Nat):min (((x % 8:Nat):Int).toNat) (IntKind.bits .u8)=x % 8:=by
 rw[Int.toNat_natCast]
 show min (x % 8) 8=_
 omega
theorem ALx {c j:Nat}(hc:c<256):(Pb .u8 (((c:Nat):Int).fdiv ((2:Int)^j)) (1:Int)==(0:Int))= !(c.testBit j):=by
 have h1:c / 2^j<256:=Nat.lt_of_le_of_lt (Nat.div_le_self _ _) hc
 rw[Nh,show(1:Int)=((1:Nat):Int) from rfl,AI4 h1 (by decide),Nat.and_one_is_mod,Nat.testBit_eq_decide_div_mod_eq]
 generalize c / 2^j=y
 rcases Nat.mod_two_eq_zero_or_one y with h|h<;>rw[h]<;>rfl
theorem AM5 {c j:Nat}(hc:c<256)(hj:j<8):bOr .u8 ((c:Nat):Int) (IntKind.wrap .u8 ((1:Int)*((2:Int)^j)))=((c ||| 2^j:Nat):Int):=by
 have h1:2^j<256:=by have:2^j<2^8:=Nat.pow_lt_pow_right (by decide) hj;simpa using this
 have e:(1:Int)*((2:Int)^j)=((2^j:Nat):Int):=by rw[Int.one_mul,Int.natCast_pow];rfl
 rw[e,wrap_u8,Nat.mod_eq_of_lt h1,AL5 hc h1]
end Go.Lf

