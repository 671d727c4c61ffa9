import Derived.Test.YticdfkoncnnmmaaGreatDoorGE
set_option linter.unusedSimpArgs false
set_option linter.unusedVariables false
namespace Go.Proofs.YticdfkoncnnmmaaGreatDoor
open Go.X
set_option maxRecDepth 100000
def zGc(t0 t1 t2:Value)(H:Heap)(R:Value→Heap→Prop):Prop:=Mpu(ld1 H t1)fun t9=>Mpu(nck t9)fun t10=>Mpu(fld 0 t10)fun t11=>Mpu(ld1 H t11)fun t12=>Mcall prg zBk [t12] H fun t13 h1=>Mcall prg zED [t13] h1 fun t14 h2=>Mpu(fld 7 t2)fun t15=>Mpu(ld1 h2 t15)fun t16=>Mpu(lenV t16)fun t17=>L1(fun k3=>fun t18_2 h4=>Mpu(binV .no .lss t18_2 t17)fun t19=>Mcd t19( J1(fun k5=>Mpu(ixS 34 t16 t18_2)fun t20=>Mpu(ldN 34 h4 t20)fun t21=>Mnew h4 zAt(zcells prg zAt)fun t6 h7=>Mwr(stN 34 h7 t6 t21)fun h8=>Mpu(lenV t14)fun t23=>L1(fun k9=>fun t24_2 h10=>Mpu(binV .no .lss t24_2 t23)fun t25=>Mcd t25( J1(fun k11=>Mpu(ixS 1 t14 t24_2)fun t26=>Mpu(ld1 h10 t26)fun t27=>Mpu(ld1 h10 t1)fun t28=>Mpu(nck t28)fun t29=>Mpu(fld 0 t29)fun t30=>Mpu(ld1 h10 t30)fun t31=>Mpu(fld 0 t2)fun t34=>Mpu(ld1 h10 t34)fun t35=>Msem prg(Instr.lookup zA1 t31 t27 false)h10 fun t33 h13=>Mre [(ld1 h13 t34,t35)]( Mpu(binV .no .eql t33 t35)fun t36=>J1(fun k14=>Mif t36 false( Mpu(fld 0 t6)fun t38=>Mpu(ld1 h13 t38)fun t39=>Mcall prg zKK [t39,t27] h13 fun t41 h15=>Mpu(unV .not t41)fun t42=>k14 t42 h15)( k14 undef h13))fun t42_2 h16=>Mpu(pickV t36(.bool true)t42_2)fun t43=>Mcd t43( k11 t42_2 h16)( Mpu(fld 0 t6)fun t45=>Mpu(ld1 h16 t45)fun t46=>Mpu(fld 0 t2)fun t47=>Mpu(ld1 h16 t47)fun t48=>Mpu(ld1 h16 t1)fun t49=>Mpu(nck t49)fun t50=>Mpu(fld 0 t50)fun t51=>Mpu(ld1 h16 t51)fun t52=>Msem prg(Instr.lookup zA1 t52 t27 false)h16 fun t54 h17=>Mre [(ld1 h17 t47,t48),(ld1 h17 t45,t46)]( Mpu(buildV prg zHC [(0,t46),(1,t48),(2,t54)])fun t55=>Mcallv prg t0 [t55] h17 fun t56 h18=>Mpu(unV .not t56)fun t57=>Mcd t57( R(.tuple #[])h18)( k11 t42_2 h18)))))fun t42_3 h12=>Mpu(binV .no .add t24_2(.int .i64 1))fun t58=>k9 t58 h12)( k5 t24_2 h10))((.int .i64 0))h8)fun t24_4 h6=>Mpu(binV .no .add t18_2(.int .i64 1))fun t59=>k3 t59 h6)( R(.tuple #[])h4))((.int .i64 0))h2
theorem zIo{t0 t1 t2:Value}{H:Heap}{R:Value→Heap→Prop}(h:zGc t0 t1 t2 H R):HCalls prg zBm [t0,t1,t2] H R:=zAe [18,24,42] Tryz.func182(by kernel_rfl)(by kernel_rfl)h
def zG1(t0:Value)(H:Heap)(R:Value→Heap→Prop):Prop:=Mcall prg zGT [t0] H fun t5 h1=>Mcall prg zCO [t5] h1 fun t7 h2=>R t5 h2
theorem zIX{t0:Value}{H:Heap}{R:Value→Heap→Prop}(h:zG1 t0 H R):HCalls prg zED [t0] H R:=zAe [] Tryz.func183(by kernel_rfl)(by kernel_rfl)h
def zB9(t0:Value)(H:Heap)(R:Value→Heap→Prop):Prop:=Mnew H zA1(some(Value.cells t0))fun t1 h1=>R(.func(.func zAH) #[] #[t1])h1
theorem zDD{t0:Value}{H:Heap}{R:Value→Heap→Prop}(h:zB9 t0 H R):HCalls prg zBk [t0] H R:=zAe [] Tryz.func184(by kernel_rfl)(by kernel_rfl)h
def zMW(t0 t1:Value)(H:Heap)(R:Value→Heap→Prop):Prop:=Mpu(binV .no .eql t0 t1)fun t7=>J1(fun k1=>Mif t7 false( Mpu(binV .no .add t1(.string⟨#[47]⟩))fun t11=>Mcall prg zCV [t0,t11] H fun t12 h2=>k1 t12 h2)( k1 undef H))fun t12_2 h3=>Mpu(pickV t7(.bool true)t12_2)fun t13=>J1(fun k4=>Mif t13 false( Mpu(binV .no .add t0(.string⟨#[47]⟩))fun t17=>Mcall prg zCV [t1,t17] h3 fun t18 h5=>k4 t18 h5)( k4 undef h3))fun t18_2 h6=>Mpu(pickV t13(.bool true)t18_2)fun t19=>R t19 h6
theorem zM4{t0 t1:Value}{H:Heap}{R:Value→Heap→Prop}(h:zMW t0 t1 H R):HCalls prg zKK [t0,t1] H R:=zAe [12,18] Tryz.func185(by kernel_rfl)(by kernel_rfl)h
def zDz(t0 t1 t2 t3:Value)(H:Heap)(R:Value→Heap→Prop):Prop:=Mpu(binV .no .add t1(.int .i64 1))fun t11=>L1(fun k1=>fun t8_2 h2=>Mpu(binV .no .lss t8_2 t2)fun t14=>Mcd t14( J2(fun k3=>L1(fun k5=>fun t9_2 h6=>Mpu(binV .no .gtr t9_2 t1)fun t20=>J1(fun k7=>Mif t20 true( Mpu(ixS 1 t0 t9_2)fun t25=>Mpu(ld1 h6 t25)fun t26=>Mpu(binV .no .sub t9_2(.int .i64 1))fun t29=>Mpu(ixS 1 t0 t29)fun t30=>Mpu(ld1 h6 t30)fun t31=>Mcallv prg t3 [t26,t31] h6 fun t32 h8=>Mpu(binV .no .lss t32(.int .i64 0))fun t33=>k7 t33 h8)( k7 undef h6))fun t33_2 h9=>Mpu(pickV t20 t33_2(.bool false))fun t34=>Mcd t34( Mpu(binV .no .sub t9_2(.int .i64 1))fun t41=>Mpu(binV .no .sub t9_2(.int .i64 1))fun t44=>Mpu(ixS 1 t0 t44)fun t45=>Mpu(ld1 h9 t45)fun t46=>Mpu(ixS 1 t0 t9_2)fun t49=>Mpu(ld1 h9 t49)fun t50=>Mpu(ixS 1 t0 t9_2)fun t51=>Mwr(st1 h9 t51 t46)fun h10=>Mpu(ixS 1 t0 t41)fun t52=>Mwr(st1 h10 t52 t50)fun h11=>Mpu(binV .no .sub t9_2(.int .i64 1))fun t36=>k5 t36 h11)( k3 t9_2 t33_2 h9))(t8_2)h2)fun t9_4 t33_3 h4=>Mpu(binV .no .add t8_2(.int .i64 1))fun t16=>k1 t16 h4)( R(.tuple #[])h2))(t11)H
theorem zFy{t0 t1 t2 t3:Value}{H:Heap}{R:Value→Heap→Prop}(h:zDz t0 t1 t2 t3 H R):HCalls prg zBp [t0,t1,t2,t3] H R:=zAe [8,9,33] Tryz.func186(by kernel_rfl)(by kernel_rfl)h
end Go.Proofs.YticdfkoncnnmmaaGreatDoor
namespace Go.Proofs.YticdfkoncnnmmaaGreatDoor
open Go.X
set_option maxRecDepth 100000
def zGv(t0:Value)(H:Heap)(R:Value→Heap→Prop):Prop:=Mpu(cvI .u64 t0)fun t4=>Mcall prg zB0 [t4] H fun t5 h1=>Mpu(binV .no .shl(.int .u64 1)t5)fun t6=>R t6 h1
theorem zII{t0:Value}{H:Heap}{R:Value→Heap→Prop}(h:zGv t0 H R):HCalls prg zEe [t0] H R:=zAe [] Tryz.func208(by kernel_rfl)(by kernel_rfl)h
def zG2(t0:Value)(H:Heap)(R:Value→Heap→Prop):Prop:=Mpu(nck t0)fun t4=>Mpu(ld1 H t4)fun t5=>Mpu(nck t0)fun t7=>Mpu(ld1 H t7)fun t8=>Mpu(binV .no .shl t8(.int .u64 13))fun t9=>Mpu(binV .no .xor t5 t9)fun t10=>Mpu(nck t0)fun t11=>Mwr(st1 H t11 t10)fun h1=>Mpu(nck t0)fun t13=>Mpu(ld1 h1 t13)fun t14=>Mpu(nck t0)fun t16=>Mpu(ld1 h1 t16)fun t17=>Mpu(binV .no .shr t17(.int .u64 7))fun t18=>Mpu(binV .no .xor t14 t18)fun t19=>Mpu(nck t0)fun t20=>Mwr(st1 h1 t20 t19)fun h2=>Mpu(nck t0)fun t22=>Mpu(ld1 h2 t22)fun t23=>Mpu(nck t0)fun t25=>Mpu(ld1 h2 t25)fun t26=>Mpu(binV .no .shl t26(.int .u64 17))fun t27=>Mpu(binV .no .xor t23 t27)fun t28=>Mpu(nck t0)fun t29=>Mwr(st1 h2 t29 t28)fun h3=>Mpu(nck t0)fun t31=>Mpu(ld1 h3 t31)fun t32=>R t32 h3
theorem zIY{t0:Value}{H:Heap}{R:Value→Heap→Prop}(h:zG2 t0 H R):HCalls prg zEE [t0] H R:=zAe [] Tryz.func209(by kernel_rfl)(by kernel_rfl)h
end Go.Proofs.YticdfkoncnnmmaaGreatDoor
namespace Go.Proofs.YticdfkoncnnmmaaGreatDoor
open Go.X
set_option maxRecDepth 100000
def zGw(t0:Value)(H:Heap)(R:Value→Heap→Prop):Prop:=Mcall prg zBY [(.slice none 0 0),t0] H fun t4 h1=>R t4 h1
theorem zIJ{t0:Value}{H:Heap}{R:Value→Heap→Prop}(h:zGw t0 H R):HCalls prg zGT [t0] H R:=zAe [] Tryz.func215(by kernel_rfl)(by kernel_rfl)h
def zEv(t0:Value)(H:Heap)(R:Value→Heap→Prop):Prop:=Mpu(lenV t0)fun t4=>Mpu(cvI .u64 t4)fun t8=>Mcall prg zB0 [t8] H fun t9 h1=>Mcall prg zEn [t0,(.int .i64 0),t4,t9] h1 fun t10 h2=>R(.tuple #[])h2
theorem zGx{t0:Value}{H:Heap}{R:Value→Heap→Prop}(h:zEv t0 H R):HCalls prg zCO [t0] H R:=zAe [] Tryz.func216(by kernel_rfl)(by kernel_rfl)h
def zBX(t0 t1:Value)(H:Heap)(R:Value→Heap→Prop):Prop:=Mpu(ld1 H t1)fun t4=>Msem prg(Instr.range zA1 t4)H fun t5 h1=>L0(fun k2=>fun h3=>Msem prg(Instr.next t5 false 0)h3 fun t6 h4=>Mpu(extV 0 t6)fun t7=>Mcd t7( Msem prg(Instr.entry t5)h4 fun t8 h5=>Mpu(extV 0 t8)fun t9=>Mcallv prg t0 [t9] h5 fun t12 h6=>Mpu(unV .not t12)fun t13=>Mcd t13( R(.tuple #[])h6)( k2 h6))( R(.tuple #[])h4))h1
theorem zDn{t0 t1:Value}{H:Heap}{R:Value→Heap→Prop}(h:zBX t0 t1 H R):HCalls prg zAH [t0,t1] H R:=zAe [] Tryz.func217(by kernel_rfl)(by kernel_rfl)h
def zDk(t0 t1:Value)(H:Heap)(R:Value→Heap→Prop):Prop:=Mnew H zOQ(some(Value.cells t0))fun t2 h1=>Mrange prg H.size t1 h1(fun a2 h3 k4=>a2.length=1∧( Mbeg(h1.size+1)h3 fun h7=>Mpu(ld1 h7 t2)fun t8=>Mnews h7 zAu 1(bslV prg zAu 1 [(0,(a2.getD 0 undef))])fun t10 h8=>Mapp zAu 1 16 h8 t8 t10 fun t11 h9=>Mwr(st1 h9 t2 t11)fun h10=>k4 none h10))fun j5 h6=>(j5=none∧( Mpu(ld1 h6 t2)fun t12=>Mcl H.size h6 fun h11=>R t12 h11))∨False
theorem zFh{t0 t1:Value}{H:Heap}{R:Value→Heap→Prop}(h:zDk t0 t1 H R):HCalls prg zBY [t0,t1] H R:=zAe [] Tryz.func235(by kernel_rfl)(by kernel_rfl)h
end Go.Proofs.YticdfkoncnnmmaaGreatDoor
namespace Go.Proofs.YticdfkoncnnmmaaGreatDoor
open Go.X
set_option maxRecDepth 100000
def zJQ(t0 t1:Value)(H:Heap)(R:Value→Heap→Prop):Prop:=Mcall prg zCl [t0] H fun t6 h1=>J1(fun k2=>Mif t6 true( Mcall prg zCl [t1] h1 fun t9 h3=>Mpu(unV .not t9)fun t10=>k2 t10 h3)( k2 undef h1))fun t10_2 h4=>Mpu(pickV t6 t10_2(.bool false))fun t11=>J1(fun k5=>Mif t11 false( Mpu(binV .no .lss t0 t1)fun t15=>k5 t15 h4)( k5 undef h4))fun t15_2 h6=>Mpu(pickV t11(.bool true)t15_2)fun t16=>R t16 h6
theorem zK2{t0 t1:Value}{H:Heap}{R:Value→Heap→Prop}(h:zJQ t0 t1 H R):HCalls prg zG8 [t0,t1] H R:=zAe [10,15] Tryz.func251(by kernel_rfl)(by kernel_rfl)h
end Go.Proofs.YticdfkoncnnmmaaGreatDoor
