/- Texts laid one behind the other: KB, KC, KD, KE, SS, G2, T4, LKeep.
   No condition. -/
import Derived.KernelRfl
import Derived.Test.YtcaccnneblghgaaGreatQ26
set_option linter.unusedVariables false
set_option linter.unusedSimpArgs false
namespace Go.Proofs.YtcaccnneblghgaaGreat
namespace V
set_option maxRecDepth 1000000
def aQD:Obj:=.cells ⟨(aBH [.int .i64 2,s0,.slice (some ⟨99213,0,(some 4)⟩) 3 3])⟩ 63
def aMZ:Obj:=.cells ⟨[jm,s0,.int .i64 1,.slice (some ⟨120543,0,(some 1)⟩) 0 0]⟩ 202
def aM0:Obj:=.cells ⟨[.slice (some ⟨120432,0,(some 1)⟩) 0 0,.slice (some ⟨120436,0,(some 1)⟩) 0 0,.slice (some ⟨120450,0,(some 1)⟩) 1 1,.slice (some ⟨120420,0,(some 1)⟩) 1 1,.slice (some ⟨120597,0,(some 1)⟩) 1 1,.slice (some ⟨120583,0,(some 1)⟩) 0 0,.slice (some ⟨120598,0,(some 1)⟩) 1 1,.slice (some ⟨120567,0,(some 1)⟩) 1 1]⟩ 160
def aM1:Obj:=.cells ⟨[.slice (some ⟨120551,0,(some 2)⟩) 2 2]⟩ 200
def aM2:Obj:=.cells ⟨[.slice (some ⟨120404,0,(some 2)⟩) 2 2]⟩ 200
def aM3:Obj:=.cells ⟨[jm,s0,.int .i64 1,.slice (some ⟨120396,0,(some 1)⟩) 0 0]⟩ 202
def aQm:List Value:=[.agg ⟨(aBH [.int .i64 2,s0,.slice (some ⟨99213,0,(some 4)⟩) 3 3])⟩]
def aQn:Value:=.tuple ⟨[.agg ⟨(aBH [.int .i64 2,.slice (some ⟨120300,0,(some 2)⟩) 0 0,.slice (some ⟨120807,0,(some 4)⟩) 2 2])⟩,j0]⟩
def aOi:Cp where
 f:=aDj
 args:=aQm
 h:=kTb (kTb (kTb (kTb (kTl (kTb (kTb (kTr (kTl (kTl (kTr (kTl (kTf x3)))))) (kTr (kTr (kTl (kTr (kTl (kTr (kTr (kTr (kTf (.cells ⟨[]⟩ 5))))))))))) (kTb (kTr (kTr (kTr (kTl (kTl (kTl (kTl (kTl (kTr (kTf aCn)))))))))) (kTl (kTb (kTl (kTr (kTl (kTf x4)))) (kTl (kTr (kTl (kTr (kTr (kTr (kTf uZ)))))))))))) (kTb (kTb (kTr (kTr (kTr (kTl (kTr (kTl (kTr (kTr (kTr (kTf aBh)))))))))) (kTr (kTr (kTr (kTl (kTr (kTl (kTr (kTr (kTr (kTf (.cells ⟨[]⟩ 3)))))))))))) (kTl (kTr (kTb (kTl (kTl (kTr (kTl (kTl (kTl (kTl (kTr (kTf kO1))))))))) (kTb (kTl (kTr (kTf kO2))) (kTl (kTr (kTl (kTr (kTr (kTr (kTf aBi))))))))))))) (kTb (kTl (kTb (kTl (kTr (kTr (kTl (kTl (kTf kO6)))))) (kTr (kTr (kTr (kTl (kTr (kTl (kTr (kTr (kTr (kTf (.cells ⟨[]⟩ 3))))))))))))) (kTb (kTb (kTr (kTr (kTl (kTr (kTr (kTl (kTf gG))))))) (kTb (kTl (kTr (kTr (kTr (kTl (kTf kO1)))))) (kTl (kTr (kTr (kTr (kTr (kTr (kTr (kTr (kTl (kTf kO1)))))))))))) (kTr (kTr (kTl (kTr (kTr (kTf kO0))))))))) (kTb (kTb (kTr (kTb (kTl (kTr (kTr (kTr (kTr (kTl (kTr (kTr (kTr (kTf kO6)))))))))) (kTr (kTr (kTr (kTf kO1)))))) (kTb (kTb (kTb (kTr (kTl (kTr (kTr (kTl (kTr (kTr (kTr (kTf kO1))))))))) (kTr (kTl (kTr (kTr (kTl (kTf gG))))))) (kTl (kTl (kTr (kTr (kTr (kTl (kTf kO1)))))))) (kTl (kTr (kTr (kTl (kTb (kTr (kTf aHl)) (kTr (kTl (kTf kY)))))))))) (kTb (kTb (kTr (kTr (kTr (kTr (kTl (kTl (kTl (kTf vX)))))))) (kTb (kTr (kTr (kTl (kTr (kTr (kTl (kTf kY))))))) (kTb (kTr (kTr (kTr (kTl (kTl (kTl (kTl (kTl (kTr (kTf aPJ)))))))))) (kTr (kTr (kTl (kTr (kTl (kTr (kTr (kTr (kTf fM)))))))))))) (kTb (kTl (kTb (kTr (kTr (kTr (kTl (kTl (kTl (kTl (kTl (kTr (kTf aPK)))))))))) (kTl (kTl (kTr (kTr (kTr (kTr (kTr (kTr (kTl (kTf fM)))))))))))) (kTr (kTr (kTb (kTr (kTl (kTl (kTf kO6)))) (kTl (kTr (kTr (kTl (kTf kO6)))))))))))) (kTb (kTb (kTn (kTb (kTl (kTr (kTr (kTl (kTl (kTr (kTr (kTr (kTr (kTr (kTf jJ))))))))))) (kTl (kTr (kTr (kTr (kTl (kTr (kTr (kTr (kTr (kTr (kTf jJ)))))))))))) kO2 (kTb (kTl (kTl (kTr (kTl (kTr (kTr (kTl (kTr (kTr (kTr (kTf kO1))))))))))) (kTb (kTb (kTr (kTl (kTr (kTf kO1)))) (kTr (kTr (kTr (kTr (kTl (kTr (kTr (kTr (kTf gG)))))))))) (kTl (kTr (kTr (kTr (kTr (kTl (kTr (kTr (kTr (kTf kO1))))))))))))) (kTb (kTb (kTl (kTb (kTr (kTr (kTb (kTl (kTf kO7)) (kTl (kTr (kTr (kTr (kTr (kTf aMY))))))))) (kTl (kTl (kTl (kTl (kTl (kTl (kTl (kTl (kTr (kTf aKy)))))))))))) (kTr (kTr (kTl (kTr (kTr (kTr (kTl (kTr (kTr (kTr (kTf qX)))))))))))) (kTb (kTb (kTl (kTl (kTr (kTr (kTr (kTr (kTr (kTr (kTr (kTf aNo)))))))))) (kTr (kTr (kTl (kTr (kTr (kTl (kTl (kTl (kTl (kTr (kTf aCn)))))))))))) (kTr (kTr (kTb (kTr (kTr (kTr (kTl (kTr (kTr (kTr (kTf qX)))))))) (kTl (kTl (kTl (kTl (kTl (kTl (kTl (kTr (kTf kO1))))))))))))))) (kTb (kTb (kTb (kTb (kTb (kTl (kTr (kTr (kTr (kTl (kTl (kTl (kTl (kTr (kTf aPL)))))))))) (kTr (kTr (kTl (kTl (kTl (kTf kO1))))))) (kTr (kTr (kTl (kTr (kTr (kTl (kTf fM)))))))) (kTb (kTr (kTl (kTl (kTr (kTr (kTl (kTr (kTr (kTr (kTf (.cells ⟨[]⟩ 5))))))))))) (kTl (kTb (kTr (kTr (kTr (kTl (kTl (kTl (kTl (kTr (kTf aQD))))))))) (kTl (kTr (kTr (kTr (kTr (kTr (kTr (kTf kO1)))))))))))) (kTb (kTr (kTb (kTr (kTl (kTr (kTf kO3)))) (kTl (kTl (kTr (kTr (kTl (kTr (kTr (kTr (kTf aBj))))))))))) (kTb (kTr (kTl (kTb (kTb (kTl (kTl (kTl (kTl (kTl (kTr (kTf aPM))))))) (kTr (kTl (kTr (kTr (kTr (kTf aBk))))))) (kTr (kTr (kTl (kTr (kTr (kTr (kTf aBl)))))))))) (kTr (kTl (kTl (kTr (kTr (kTl (kTr (kTr (kTr (kTf (.cells ⟨[]⟩ 3)))))))))))))) (kTb (kTb (kTb (kTb (kTl (kTr (kTr (kTl (kTl (kTl (kTl (kTl (kTr (kTf jJ)))))))))) (kTr (kTr (kTr (kTr (kTl (kTr (kTr (kTr (kTf aCm)))))))))) (kTr (kTr (kTl (kTr (kTr (kTl (kTf fM)))))))) (kTb (kTr (kTr (kTr (kTr (kTr (kTl (kTr (kTr (kTr (kTf gG)))))))))) (kTl (kTr (kTr (kTr (kTr (kTl (kTr (kTr (kTr (kTf kO1)))))))))))) (kTr (kTr (kTb (kTl (kTl (kTl (kTr (kTl (kTf jJ)))))) (kTl (kTr (kTr (kTr (kTl (kTr (kTr (kTr (kTf qX)))))))))))))))
 nx:=100153
 v:=aQn
 h':=kTb (kTb (kTb (kTb (kTl (kTb (kTb (kTr (kTl (kTl (kTr (kTl (kTf x3)))))) (kTr (kTr (kTl (kTr (kTl (kTr (kTr (kTr (kTf (.cells ⟨[]⟩ 5))))))))))) (kTb (kTr (kTr (kTr (kTl (kTl (kTl (kTl (kTl (kTr (kTf aCn)))))))))) (kTb (kTb (kTl (kTr (kTl (kTf x4)))) (kTl (kTr (kTl (kTr (kTr (kTr (kTf uZ)))))))) (kTl (kTr (kTr (kTl (kTr (kTl (kTr (kTr (kTf (.cells ⟨[]⟩ 5)))))))))))))) (kTb (kTb (kTb (kTl (kTr (kTr (kTr (kTl (kTr (kTl (kTr (kTr (kTf (.cells ⟨[]⟩ 3))))))))))) (kTr (kTr (kTl (kTr (kTl (kTr (kTr (kTr (kTf aBh)))))))))) (kTr (kTr (kTb (kTr (kTr (kTl (kTr (kTl (kTr (kTr (kTf aMZ)))))))) (kTb (kTr (kTl (kTr (kTr (kTr (kTf (.cells ⟨[]⟩ 3))))))) (kTr (kTl (kTr (kTl (kTr (kTr (kTf aM0)))))))))))) (kTb (kTr (kTb (kTl (kTl (kTr (kTl (kTl (kTl (kTl (kTr (kTf kO1))))))))) (kTb (kTl (kTr (kTf kO2))) (kTl (kTr (kTl (kTr (kTr (kTr (kTf aBi)))))))))) (kTr (kTr (kTl (kTr (kTr (kTl (kTr (kTl (kTr (kTr (kTf aM1)))))))))))))) (kTb (kTl (kTb (kTl (kTr (kTr (kTl (kTl (kTf kO6)))))) (kTr (kTr (kTr (kTl (kTr (kTl (kTr (kTr (kTr (kTf (.cells ⟨[]⟩ 3))))))))))))) (kTb (kTb (kTr (kTr (kTl (kTr (kTr (kTl (kTf gG))))))) (kTb (kTl (kTr (kTr (kTr (kTl (kTf kO1)))))) (kTl (kTr (kTr (kTr (kTr (kTr (kTr (kTr (kTl (kTf kO1)))))))))))) (kTr (kTr (kTl (kTr (kTr (kTf kO0))))))))) (kTb (kTb (kTr (kTb (kTl (kTr (kTr (kTr (kTr (kTl (kTr (kTr (kTr (kTf kO6)))))))))) (kTr (kTr (kTr (kTf kO1)))))) (kTb (kTb (kTb (kTr (kTl (kTr (kTr (kTl (kTr (kTr (kTr (kTf kO1))))))))) (kTr (kTl (kTr (kTr (kTl (kTf gG))))))) (kTl (kTl (kTr (kTr (kTr (kTl (kTf kO1)))))))) (kTl (kTr (kTr (kTl (kTb (kTr (kTf aHl)) (kTr (kTl (kTf kY)))))))))) (kTb (kTb (kTr (kTr (kTr (kTr (kTl (kTl (kTl (kTf vX)))))))) (kTb (kTb (kTl (kTr (kTr (kTr (kTl (kTr (kTl (kTr (kTr (kTf kO1)))))))))) (kTr (kTl (kTr (kTr (kTl (kTf kY))))))) (kTb (kTr (kTr (kTr (kTl (kTl (kTl (kTl (kTl (kTr (kTf aPJ)))))))))) (kTr (kTr (kTl (kTr (kTl (kTr (kTr (kTr (kTf fM)))))))))))) (kTb (kTl (kTb (kTr (kTr (kTr (kTl (kTl (kTl (kTl (kTl (kTr (kTf aPK)))))))))) (kTl (kTl (kTr (kTr (kTr (kTr (kTr (kTr (kTl (kTf fM)))))))))))) (kTr (kTr (kTb (kTr (kTl (kTl (kTf kO6)))) (kTl (kTr (kTr (kTl (kTf kO6)))))))))))) (kTb (kTb (kTn (kTb (kTl (kTr (kTr (kTl (kTl (kTr (kTr (kTr (kTr (kTr (kTf jJ))))))))))) (kTb (kTr (kTr (kTr (kTl (kTr (kTr (kTr (kTr (kTr (kTf jJ)))))))))) (kTr (kTl (kTl (kTr (kTr (kTl (kTr (kTl (kTr (kTr (kTf (.cells ⟨[]⟩ 3)))))))))))))) kO2 (kTb (kTl (kTl (kTr (kTl (kTr (kTr (kTl (kTr (kTr (kTr (kTf kO1))))))))))) (kTb (kTb (kTr (kTl (kTr (kTf kO1)))) (kTr (kTr (kTr (kTr (kTl (kTr (kTr (kTr (kTf gG)))))))))) (kTl (kTr (kTr (kTr (kTr (kTl (kTr (kTr (kTr (kTf kO1))))))))))))) (kTb (kTb (kTb (kTb (kTr (kTr (kTb (kTl (kTf kO7)) (kTl (kTr (kTr (kTr (kTr (kTf aMY))))))))) (kTl (kTl (kTl (kTl (kTl (kTl (kTl (kTl (kTr (kTf aKy))))))))))) (kTr (kTl (kTl (kTr (kTr (kTl (kTr (kTl (kTr (kTr (kTf aM2)))))))))))) (kTb (kTr (kTl (kTl (kTr (kTr (kTl (kTr (kTl (kTr (kTr (kTf aM3))))))))))) (kTr (kTl (kTb (kTr (kTr (kTl (kTr (kTl (kTr (kTr (kTf (.cells ⟨[]⟩ 3))))))))) (kTr (kTr (kTl (kTr (kTr (kTr (kTf qX)))))))))))) (kTb (kTb (kTb (kTl (kTr (kTr (kTr (kTr (kTr (kTr (kTr (kTf aNo))))))))) (kTl (kTl (kTr (kTr (kTl (kTr (kTl (kTr (kTr (kTf (.cells ⟨[]⟩ 5)))))))))))) (kTr (kTr (kTb (kTr (kTr (kTl (kTl (kTl (kTl (kTr (kTf aCn)))))))) (kTl (kTr (kTl (kTr (kTl (kTr (kTr (kTf uZ)))))))))))) (kTr (kTr (kTb (kTr (kTr (kTr (kTl (kTr (kTr (kTr (kTf qX)))))))) (kTl (kTl (kTl (kTl (kTl (kTl (kTl (kTr (kTf kO1))))))))))))))) (kTb (kTb (kTb (kTb (kTb (kTb (kTr (kTr (kTr (kTl (kTl (kTl (kTl (kTr (kTf aPL))))))))) (kTl (kTr (kTr (kTl (kTr (kTl (kTr (kTr (kTf fM)))))))))) (kTr (kTr (kTl (kTl (kTl (kTf kO1))))))) (kTr (kTr (kTl (kTr (kTr (kTl (kTf fM)))))))) (kTb (kTr (kTl (kTl (kTr (kTr (kTl (kTr (kTr (kTr (kTf (.cells ⟨[]⟩ 5))))))))))) (kTl (kTb (kTr (kTr (kTr (kTl (kTl (kTl (kTl (kTr (kTf aQD))))))))) (kTl (kTr (kTr (kTr (kTr (kTr (kTr (kTf kO1)))))))))))) (kTb (kTr (kTb (kTr (kTl (kTr (kTf kO3)))) (kTl (kTl (kTr (kTr (kTl (kTr (kTr (kTr (kTf aBj))))))))))) (kTb (kTr (kTl (kTb (kTb (kTl (kTl (kTl (kTl (kTl (kTr (kTf aPM))))))) (kTr (kTl (kTr (kTr (kTr (kTf aBk))))))) (kTr (kTr (kTl (kTr (kTr (kTr (kTf aBl)))))))))) (kTr (kTl (kTl (kTr (kTr (kTl (kTr (kTr (kTr (kTf (.cells ⟨[]⟩ 3)))))))))))))) (kTb (kTb (kTb (kTb (kTl (kTr (kTr (kTl (kTl (kTl (kTl (kTl (kTr (kTf jJ)))))))))) (kTr (kTr (kTr (kTr (kTl (kTr (kTr (kTr (kTf aCm)))))))))) (kTr (kTr (kTl (kTr (kTr (kTl (kTf fM)))))))) (kTb (kTb (kTl (kTr (kTr (kTr (kTl (kTr (kTl (kTr (kTr (kTf kO1)))))))))) (kTr (kTr (kTr (kTr (kTl (kTr (kTr (kTr (kTf gG)))))))))) (kTl (kTr (kTr (kTr (kTr (kTl (kTr (kTr (kTr (kTf kO1)))))))))))) (kTr (kTr (kTb (kTl (kTl (kTl (kTr (kTl (kTf jJ)))))) (kTl (kTr (kTr (kTr (kTl (kTr (kTr (kTr (kTf qX)))))))))))))))
 nx':=120818
theorem aMB:rM Tryz.prog aOi:=tE kI (l:=[rV,wO,xM,zU,aFW,aKA,aMA]) (bD i5 (bD lC (bD mP (bD nS (bD xN (bD aDZ (bD aHW kH))))))) (k:=200) fun ro=>by kernel_rfl
end V
end Go.Proofs.YtcaccnneblghgaaGreat
namespace Go.Proofs.YtcaccnneblghgaaGreat
namespace V
set_option maxRecDepth 1000000
def aQo:List Value:=[.slice (some ⟨63416,0,(some 1)⟩) 1 1,.slice (some ⟨5835,0,(some 1)⟩) 1 1]
def aQp:Value:=.tuple ⟨[.agg ⟨(aBH [.int .i64 2,.slice (some ⟨120300,0,(some 2)⟩) 0 0,.slice (some ⟨120807,0,(some 4)⟩) 2 2,.slice (some ⟨63416,0,(some 1)⟩) 1 1])⟩,j0]⟩
def aOj:Cp where
 f:=zZ
 args:=aQo
 h:=kTb (kTb (kTb (kTb (kTl (kTb (kTb (kTr (kTl (kTl (kTr (kTl (kTf x3)))))) (kTr (kTr (kTl (kTr (kTl (kTr (kTr (kTr (kTf (.cells ⟨[]⟩ 5))))))))))) (kTr (kTl (kTb (kTl (kTr (kTl (kTf x4)))) (kTl (kTr (kTl (kTr (kTr (kTr (kTf uZ)))))))))))) (kTb (kTb (kTr (kTr (kTr (kTl (kTr (kTl (kTr (kTr (kTr (kTf aBh)))))))))) (kTr (kTr (kTr (kTl (kTr (kTl (kTr (kTr (kTr (kTf (.cells ⟨[]⟩ 3)))))))))))) (kTl (kTr (kTr (kTb (kTl (kTr (kTf kO2))) (kTl (kTr (kTl (kTr (kTr (kTr (kTf aBi))))))))))))) (kTb (kTl (kTb (kTl (kTr (kTr (kTl (kTl (kTf kO6)))))) (kTr (kTr (kTr (kTl (kTr (kTl (kTr (kTr (kTr (kTf (.cells ⟨[]⟩ 3))))))))))))) (kTb (kTb (kTr (kTr (kTl (kTr (kTr (kTl (kTf gG))))))) (kTl (kTl (kTr (kTr (kTr (kTl (kTf kO1)))))))) (kTr (kTr (kTl (kTr (kTr (kTf kO0))))))))) (kTb (kTb (kTr (kTb (kTl (kTr (kTr (kTr (kTr (kTl (kTr (kTr (kTr (kTf kO6)))))))))) (kTr (kTr (kTr (kTf kO1)))))) (kTb (kTb (kTb (kTr (kTl (kTr (kTr (kTl (kTr (kTr (kTr (kTf kO1))))))))) (kTr (kTl (kTr (kTr (kTl (kTf gG))))))) (kTl (kTl (kTr (kTr (kTr (kTl (kTf kO1)))))))) (kTl (kTr (kTr (kTl (kTb (kTr (kTf aHl)) (kTr (kTl (kTf kY)))))))))) (kTb (kTb (kTr (kTr (kTr (kTr (kTl (kTl (kTl (kTf vX)))))))) (kTb (kTr (kTr (kTl (kTr (kTr (kTl (kTf kY))))))) (kTr (kTr (kTr (kTl (kTr (kTl (kTr (kTr (kTr (kTf fM)))))))))))) (kTr (kTr (kTr (kTb (kTr (kTl (kTl (kTf kO6)))) (kTl (kTr (kTr (kTl (kTf kO6)))))))))))) (kTb (kTb (kTn .e kO2 (kTb (kTl (kTl (kTr (kTl (kTr (kTr (kTl (kTr (kTr (kTr (kTf kO1))))))))))) (kTb (kTl (kTr (kTl (kTr (kTf kO1))))) (kTl (kTr (kTr (kTr (kTr (kTl (kTr (kTr (kTr (kTf kO1))))))))))))) (kTb (kTb (kTl (kTl (kTr (kTr (kTl (kTl (kTf kO7))))))) (kTr (kTr (kTl (kTr (kTr (kTr (kTl (kTr (kTr (kTr (kTf qX)))))))))))) (kTr (kTr (kTr (kTl (kTr (kTr (kTr (kTl (kTr (kTr (kTr (kTf qX)))))))))))))) (kTb (kTb (kTb (kTb (kTr (kTr (kTr (kTl (kTl (kTl (kTf kO1))))))) (kTr (kTr (kTl (kTr (kTr (kTl (kTf fM)))))))) (kTl (kTr (kTl (kTl (kTr (kTr (kTl (kTr (kTr (kTr (kTf (.cells ⟨[]⟩ 5))))))))))))) (kTb (kTr (kTb (kTr (kTl (kTr (kTf kO3)))) (kTl (kTl (kTr (kTr (kTl (kTr (kTr (kTr (kTf aBj))))))))))) (kTb (kTr (kTl (kTb (kTr (kTr (kTl (kTr (kTr (kTr (kTf aBk))))))) (kTr (kTr (kTl (kTr (kTr (kTr (kTf aBl)))))))))) (kTr (kTl (kTl (kTr (kTr (kTl (kTr (kTr (kTr (kTf (.cells ⟨[]⟩ 3)))))))))))))) (kTb (kTb (kTr (kTr (kTr (kTl (kTr (kTr (kTl (kTf fM)))))))) (kTr (kTl (kTr (kTr (kTr (kTr (kTl (kTr (kTr (kTr (kTf kO1)))))))))))) (kTr (kTr (kTb (kTl (kTl (kTl (kTr (kTl (kTf jJ)))))) (kTl (kTr (kTr (kTr (kTl (kTr (kTr (kTr (kTf qX)))))))))))))))
 nx:=63430
 v:=aQp
 h':=kTb (kTb (kTb (kTb (kTl (kTb (kTb (kTr (kTl (kTl (kTr (kTl (kTf x3)))))) (kTr (kTr (kTl (kTr (kTl (kTr (kTr (kTr (kTf (.cells ⟨[]⟩ 5))))))))))) (kTr (kTb (kTb (kTl (kTr (kTl (kTf x4)))) (kTl (kTr (kTl (kTr (kTr (kTr (kTf uZ)))))))) (kTl (kTr (kTr (kTl (kTr (kTl (kTr (kTr (kTf (.cells ⟨[]⟩ 5)))))))))))))) (kTb (kTb (kTb (kTl (kTr (kTr (kTr (kTl (kTr (kTl (kTr (kTr (kTf (.cells ⟨[]⟩ 3))))))))))) (kTr (kTr (kTl (kTr (kTl (kTr (kTr (kTr (kTf aBh)))))))))) (kTr (kTr (kTb (kTr (kTr (kTl (kTr (kTl (kTr (kTr (kTf aMZ)))))))) (kTb (kTr (kTl (kTr (kTr (kTr (kTf (.cells ⟨[]⟩ 3))))))) (kTr (kTl (kTr (kTl (kTr (kTr (kTf aM0)))))))))))) (kTb (kTr (kTr (kTb (kTl (kTr (kTf kO2))) (kTl (kTr (kTl (kTr (kTr (kTr (kTf aBi)))))))))) (kTr (kTr (kTl (kTr (kTr (kTl (kTr (kTl (kTr (kTr (kTf aM1)))))))))))))) (kTb (kTl (kTb (kTl (kTr (kTr (kTl (kTl (kTf kO6)))))) (kTr (kTr (kTr (kTl (kTr (kTl (kTr (kTr (kTr (kTf (.cells ⟨[]⟩ 3))))))))))))) (kTb (kTb (kTr (kTr (kTl (kTr (kTr (kTl (kTf gG))))))) (kTl (kTl (kTr (kTr (kTr (kTl (kTf kO1)))))))) (kTr (kTr (kTl (kTr (kTr (kTf kO0))))))))) (kTb (kTb (kTr (kTb (kTl (kTr (kTr (kTr (kTr (kTl (kTr (kTr (kTr (kTf kO6)))))))))) (kTr (kTr (kTr (kTf kO1)))))) (kTb (kTb (kTb (kTr (kTl (kTr (kTr (kTl (kTr (kTr (kTr (kTf kO1))))))))) (kTr (kTl (kTr (kTr (kTl (kTf gG))))))) (kTl (kTl (kTr (kTr (kTr (kTl (kTf kO1)))))))) (kTl (kTr (kTr (kTl (kTb (kTr (kTf aHl)) (kTr (kTl (kTf kY)))))))))) (kTb (kTb (kTr (kTr (kTr (kTr (kTl (kTl (kTl (kTf vX)))))))) (kTb (kTb (kTl (kTr (kTr (kTr (kTl (kTr (kTl (kTr (kTr (kTf kO1)))))))))) (kTr (kTl (kTr (kTr (kTl (kTf kY))))))) (kTr (kTr (kTr (kTl (kTr (kTl (kTr (kTr (kTr (kTf fM)))))))))))) (kTr (kTr (kTr (kTb (kTr (kTl (kTl (kTf kO6)))) (kTl (kTr (kTr (kTl (kTf kO6)))))))))))) (kTb (kTb (kTn (kTr (kTr (kTr (kTl (kTl (kTr (kTr (kTl (kTr (kTl (kTr (kTr (kTf (.cells ⟨[]⟩ 3)))))))))))))) kO2 (kTb (kTl (kTl (kTr (kTl (kTr (kTr (kTl (kTr (kTr (kTr (kTf kO1))))))))))) (kTb (kTl (kTr (kTl (kTr (kTf kO1))))) (kTl (kTr (kTr (kTr (kTr (kTl (kTr (kTr (kTr (kTf kO1))))))))))))) (kTb (kTb (kTb (kTl (kTr (kTr (kTl (kTl (kTf kO7)))))) (kTr (kTl (kTl (kTr (kTr (kTl (kTr (kTl (kTr (kTr (kTf aM2)))))))))))) (kTb (kTr (kTl (kTl (kTr (kTr (kTl (kTr (kTl (kTr (kTr (kTf aM3))))))))))) (kTr (kTl (kTb (kTr (kTr (kTl (kTr (kTl (kTr (kTr (kTf (.cells ⟨[]⟩ 3))))))))) (kTr (kTr (kTl (kTr (kTr (kTr (kTf qX)))))))))))) (kTb (kTb (kTr (kTl (kTl (kTr (kTr (kTl (kTr (kTl (kTr (kTr (kTf (.cells ⟨[]⟩ 5)))))))))))) (kTr (kTr (kTr (kTl (kTr (kTl (kTr (kTl (kTr (kTr (kTf uZ)))))))))))) (kTr (kTr (kTl (kTr (kTr (kTr (kTl (kTr (kTr (kTr (kTf qX)))))))))))))) (kTb (kTb (kTb (kTb (kTb (kTr (kTl (kTr (kTr (kTl (kTr (kTl (kTr (kTr (kTf fM)))))))))) (kTr (kTr (kTl (kTl (kTl (kTf kO1))))))) (kTr (kTr (kTl (kTr (kTr (kTl (kTf fM)))))))) (kTl (kTr (kTl (kTl (kTr (kTr (kTl (kTr (kTr (kTr (kTf (.cells ⟨[]⟩ 5))))))))))))) (kTb (kTr (kTb (kTr (kTl (kTr (kTf kO3)))) (kTl (kTl (kTr (kTr (kTl (kTr (kTr (kTr (kTf aBj))))))))))) (kTb (kTr (kTl (kTb (kTr (kTr (kTl (kTr (kTr (kTr (kTf aBk))))))) (kTr (kTr (kTl (kTr (kTr (kTr (kTf aBl)))))))))) (kTr (kTl (kTl (kTr (kTr (kTl (kTr (kTr (kTr (kTf (.cells ⟨[]⟩ 3)))))))))))))) (kTb (kTb (kTr (kTr (kTr (kTl (kTr (kTr (kTl (kTf fM)))))))) (kTb (kTl (kTl (kTr (kTr (kTr (kTl (kTr (kTl (kTr (kTr (kTf kO1))))))))))) (kTl (kTr (kTr (kTr (kTr (kTl (kTr (kTr (kTr (kTf kO1)))))))))))) (kTr (kTr (kTb (kTl (kTl (kTl (kTr (kTl (kTf jJ)))))) (kTl (kTr (kTr (kTr (kTl (kTr (kTr (kTr (kTf qX)))))))))))))))
 nx':=120830
theorem aMC:rM Tryz.prog aOj:=tE kI (l:=[rV,wO,xM,zU,aFW,aKA,aMA,aOi]) (bD i5 (bD lC (bD mP (bD nS (bD xN (bD aDZ (bD aHW (bD aMB kH)))))))) (k:=200) fun ro=>by kernel_rfl
end V
end Go.Proofs.YtcaccnneblghgaaGreat
namespace Go.Proofs.YtcaccnneblghgaaGreat
namespace V
set_option maxRecDepth 1000000
def aPN:Obj:=.cells ⟨(aBH [.int .i64 2,.slice (some ⟨62815,0,(some 2)⟩) 0 0,.slice (some ⟨63322,0,(some 4)⟩) 2 2,.slice (some ⟨5931,0,(some 1)⟩) 1 1,b0,b0,b0,b0,b0,b0,b0,b0,b0,b0,b0,b0,b0,b0,b0,b0,b0,b0,b0,b0,b0,b0,b0,b0,b0,b0,b0,b0,b0,b0,b0,b0,b0,b0,b0,b0,b0,b0,b0,b0,b0,b0,b0,b0,b0,b0,b0,b0,b0,b0,b0,b0,b0,b0,b0,b0,b0,b0,b0,b0,b0,b0,b0,b0,b0,b0,b0,b0,b0,b0,b0,b0,b0,b0,b0,b0,b0,b0,b0,b0,b0,b0,b0,b0,b0,b0,b0,b0,b0,b0,b0,b0,b0,b0,b0,b0,b0,b1,b0,b0,b0,b0,b0,b0,b0,b0,b0,b0,b0,b0,b0,b0,b0,b0,b0,b0,b0,b0,b0,b0,b0,b0,b0,b0,b0,b0,b0,b0,b0,b0,b0,b0,b0,b0,b0,b0,b0,b0,b0,b0,b0,b0,b0,b0,b0,b0,b0,b0,b0,b0,b0,b0,b0,b0,b0,b0,b0,b0,b0,b0,b0,b0,b0,b0,b0,b0,b0,b0,b0,b0,b0,b0,b0,b0,b0,b0,b0,b0,b0,b0,b0,b0,b0,b0,b0,b0,b0,b0,b0,b0,b0,b0,b0,b0,b0,b0,b0,b0,b0,b0,b0,b0,b0,b0,b0,b0,b0,b0,b0,b0,b0,b0,b0,b0,b0,b0,b0,b0,b0,b0,b0,b0,b0,b0,b0,b0,b0,b0,b0,b0,b0,b0,b0,b0,b0,b0,b0,b0,b0,b0,b0,b0,b0,b0,b0,b0,b0,b0,b0,b0,b0,b0,b0,b0,b0,b0,.int .i64 2,.slice (some ⟨120300,0,(some 2)⟩) 0 0,.slice (some ⟨120807,0,(some 4)⟩) 2 2,.slice (some ⟨63416,0,(some 1)⟩) 1 1])⟩ 65
def aQq:List Value:=[.agg ⟨[.slice (some ⟨8,0,(some 1)⟩) 1 1,s0,.slice (some ⟨1915,0,(some 7)⟩) 1 1]⟩,.int .i64 9]
def aQr:Value:=.tuple ⟨[.agg ⟨[.slice (some ⟨3287,0,(some 1)⟩) 1 1,.slice (some ⟨5849,0,(some 1)⟩) 1 1,.slice (some ⟨5862,0,(some 1)⟩) 1 1,.slice (some ⟨120843,0,(some 260)⟩) 2 2]⟩,j0,j0]⟩
def aMD:Cp where
 f:=aCj
 args:=aQq
 h:=kTb (kTb (kTr (kTr (kTr (kTr (kTr (kTl (kTr (kTr (kTf kO0))))))))) (kTb (kTl (kTr (kTr (kTr (kTr (kTr (kTf kO1))))))) (kTr (kTr (kTr (kTr (kTl (kTr (kTl (kTl (kTf kO6))))))))))) (kTb (kTl (kTn .e kO2 (kTr (kTl (kTl (kTr (kTl (kTr (kTf kO1))))))))) (kTl (kTr (kTl (kTr (kTl (kTr (kTl (kTr (kTf kO3))))))))))
 nx:=2435
 v:=aQr
 h':=kTb (kTb (kTb (kTb (kTl (kTb (kTr (kTr (kTr (kTl (kTr (kTl (kTr (kTr (kTr (kTf (.cells ⟨[]⟩ 5))))))))))) (kTr (kTb (kTr (kTl (kTr (kTl (kTr (kTr (kTr (kTf uZ)))))))) (kTl (kTr (kTr (kTl (kTr (kTl (kTr (kTr (kTf (.cells ⟨[]⟩ 5)))))))))))))) (kTb (kTb (kTb (kTl (kTr (kTr (kTr (kTl (kTr (kTl (kTr (kTr (kTf (.cells ⟨[]⟩ 3))))))))))) (kTr (kTr (kTl (kTr (kTl (kTr (kTr (kTr (kTf aBh)))))))))) (kTr (kTr (kTb (kTr (kTr (kTl (kTr (kTl (kTr (kTr (kTf aMZ)))))))) (kTb (kTr (kTl (kTr (kTr (kTr (kTf (.cells ⟨[]⟩ 3))))))) (kTr (kTl (kTr (kTl (kTr (kTr (kTf aM0)))))))))))) (kTb (kTr (kTr (kTb (kTl (kTr (kTf kO2))) (kTl (kTr (kTl (kTr (kTr (kTr (kTf aBi)))))))))) (kTr (kTr (kTl (kTr (kTr (kTl (kTr (kTl (kTr (kTr (kTf aM1)))))))))))))) (kTb (kTl (kTr (kTr (kTr (kTr (kTl (kTr (kTl (kTr (kTr (kTr (kTf (.cells ⟨[]⟩ 3))))))))))))) (kTb (kTb (kTl (kTl (kTl (kTl (kTl (kTr (kTr (kTl (kTr (kTr (kTf aPN))))))))))) (kTl (kTl (kTr (kTr (kTr (kTl (kTf kO1)))))))) (kTr (kTr (kTl (kTr (kTr (kTf kO0))))))))) (kTb (kTb (kTr (kTr (kTr (kTr (kTr (kTf kO1)))))) (kTb (kTl (kTl (kTr (kTl (kTr (kTr (kTl (kTr (kTr (kTr (kTf kO1))))))))))) (kTl (kTr (kTr (kTl (kTr (kTr (kTl (kTf kY)))))))))) (kTb (kTr (kTb (kTl (kTl (kTr (kTr (kTr (kTl (kTr (kTl (kTr (kTr (kTf kO1))))))))))) (kTr (kTr (kTr (kTl (kTr (kTl (kTr (kTr (kTr (kTf fM)))))))))))) (kTr (kTr (kTr (kTl (kTr (kTl (kTl (kTf kO6))))))))))) (kTb (kTb (kTn (kTr (kTr (kTr (kTl (kTl (kTr (kTr (kTl (kTr (kTl (kTr (kTr (kTf (.cells ⟨[]⟩ 3)))))))))))))) kO2 (kTb (kTl (kTl (kTr (kTl (kTr (kTr (kTl (kTr (kTr (kTr (kTf kO1))))))))))) (kTb (kTl (kTr (kTl (kTr (kTf kO1))))) (kTl (kTr (kTr (kTr (kTr (kTl (kTr (kTr (kTr (kTf kO1))))))))))))) (kTb (kTb (kTr (kTr (kTl (kTl (kTr (kTr (kTl (kTr (kTl (kTr (kTr (kTf aM2)))))))))))) (kTb (kTr (kTl (kTl (kTr (kTr (kTl (kTr (kTl (kTr (kTr (kTf aM3))))))))))) (kTr (kTl (kTl (kTr (kTr (kTl (kTr (kTl (kTr (kTr (kTf (.cells ⟨[]⟩ 3)))))))))))))) (kTl (kTb (kTr (kTl (kTl (kTr (kTr (kTl (kTr (kTl (kTr (kTr (kTf (.cells ⟨[]⟩ 5)))))))))))) (kTr (kTr (kTr (kTl (kTr (kTl (kTr (kTl (kTr (kTr (kTf uZ))))))))))))))) (kTb (kTb (kTb (kTl (kTl (kTr (kTl (kTr (kTr (kTl (kTr (kTl (kTr (kTr (kTf fM)))))))))))) (kTl (kTr (kTl (kTl (kTr (kTr (kTl (kTr (kTr (kTr (kTf (.cells ⟨[]⟩ 5))))))))))))) (kTb (kTr (kTb (kTr (kTl (kTr (kTf kO3)))) (kTl (kTl (kTr (kTr (kTl (kTr (kTr (kTr (kTf aBj))))))))))) (kTb (kTr (kTl (kTb (kTr (kTr (kTl (kTr (kTr (kTr (kTf aBk))))))) (kTr (kTr (kTl (kTr (kTr (kTr (kTf aBl)))))))))) (kTr (kTl (kTl (kTr (kTr (kTl (kTr (kTr (kTr (kTf (.cells ⟨[]⟩ 3)))))))))))))) (kTl (kTb (kTr (kTr (kTr (kTl (kTr (kTr (kTl (kTf fM)))))))) (kTl (kTl (kTl (kTr (kTr (kTr (kTl (kTr (kTl (kTr (kTr (kTf kO1))))))))))))))))
 nx':=120859
theorem aHX:rM Tryz.prog aMD:=tE kI (l:=[rV,wO,xM,zU,aFW,aOj]) (bD i5 (bD lC (bD mP (bD nS (bD xN (bD aMC kH)))))) (k:=200) fun ro=>by kernel_rfl
end V
end Go.Proofs.YtcaccnneblghgaaGreat
namespace Go.Proofs.YtcaccnneblghgaaGreat
namespace V
set_option maxRecDepth 1000000
def aQE:Obj:=.cells ⟨[.slice (some ⟨3287,0,(some 1)⟩) 1 1,.slice (some ⟨5849,0,(some 1)⟩) 1 1,.slice (some ⟨5862,0,(some 1)⟩) 1 1,.slice (some ⟨120843,0,(some 260)⟩) 2 2]⟩ 34
def aQT:Obj:=.cells ⟨[.slice (some ⟨139622,0,(some 2)⟩) 2 2]⟩ 200
def aQU:Obj:=.cells ⟨[.slice (some ⟨134894,0,(some 2)⟩) 2 2]⟩ 200
def aQV:Obj:=.cells ⟨(aBH [.int .i64 2,.slice (some ⟨139451,0,(some 2)⟩) 0 0,.slice (some ⟨139690,0,(some 4)⟩) 2 2,j0,s0,j0])⟩ 148
def aQW:Obj:=.cells ⟨(aBH [.int .i64 2,.slice (some ⟨134723,0,(some 2)⟩) 0 0,.slice (some ⟨134962,0,(some 4)⟩) 2 2,j0,s0,j0])⟩ 148
def aQX:Obj:=.cells ⟨[.slice (some ⟨134776,0,(some 2)⟩) 2 2]⟩ 200
def aQY:Obj:=.cells ⟨[.slice (some ⟨139504,0,(some 2)⟩) 2 2]⟩ 200
def aQZ:Obj:=.cells ⟨[jm,s0,.int .i64 1,.slice (some ⟨139546,0,(some 1)⟩) 0 0]⟩ 202
def aQ0:Obj:=.cells ⟨(aQF [j0,s0,s0,.slice (some ⟨135022,0,(some 1)⟩) 1 1,b0,b0,b0,b0,b0,b0,b0,b0,b0,b0,b0,b0,b0,b0,b0,b0,b0,b0,b0,b0,b0,b0,b0,b0,b0,b0,b0,b0,b0,b0,b0,b0,b0,b0,b0,b0,b0,b0,b0,b0,b0,b0,b0,b0,b0,b0,b0,b0,b0,b0,b0,b0,b0,b0,b0,b0,b0,b0,b0,b0,b0,b0,b0,b0,b0,b0,b0,b0,b0,b0,b0,b0,b0,b0,b0,b0,b0,b0,b0,b0,b0,b0,b0,b0,b0,b0,b0,b0,b0,b0,b0,b0,b0,b0,b0,b0,b0,b0,b0,b0,b0,b0,b0,b0,b0,b0,b0,b0,b0,b0,b0,b0,b0,b0,b0,b0,b0,b0,b0,b0,b0,b0,b0,b0,b0,b0,b0,b0,b0,b0,b0,b0,b0,b0,b0,b0,b0,b0,b0,b0,b0,b0,b0,b0,b0,b0,b0,b0,b0,b0,b0,b0,b0,b0,b0,b0,b0,b0,b0,b0,b0,b0,b0,b0,b0,b0,b0,b0,b0,b0,b0,b0,b0,b0,b0,b0,b0,b0,b0,b0,b0,b0,b0,b0,b0,b0,b0,b0,b0,b0,b0,b0,b0,b0,b0,b0,b0,b0,b0,b0,b0,b0,b0,b0,b0,b0,b0,b0,b0,b0,b0,b0,b0,b0,b0,b0,b0,b0,b0,b0,b0,b0,b0,b0,b0,b0,b0,b0,b0,b0,b0,b0,b0,b0,b0,b0,b0,b0,b0,b0,b0,b0,b0,b0,b0,b0,b0,b0,b0,b0,b0,b0,b0,b0,b0,b0,j0,s0,s0,.slice (some ⟨139750,0,(some 1)⟩) 1 1])⟩ 65
def aQ1:Obj:=.cells ⟨[jm,s0,.int .i64 1,.slice (some ⟨134818,0,(some 1)⟩) 0 0]⟩ 202
def aQ2:Obj:=.cells ⟨[.pointer (some ⟨134971,0,(some 0)⟩),.pointer (some ⟨139699,0,(some 0)⟩)]⟩ 101
def aQ3:Obj:=.cells ⟨[s0,.slice (some ⟨134748,0,(some 1)⟩) 0 0,.slice (some ⟨134758,0,(some 1)⟩) 1 1,.slice (some ⟨134833,0,(some 1)⟩) 1 1,s0,.slice (some ⟨134866,0,(some 1)⟩) 0 0,.slice (some ⟨134876,0,(some 1)⟩) 1 1,.slice (some ⟨134951,0,(some 1)⟩) 1 1]⟩ 160
def aQ4:Obj:=.cells ⟨[s0,.slice (some ⟨139476,0,(some 1)⟩) 0 0,.slice (some ⟨139486,0,(some 1)⟩) 1 1,.slice (some ⟨139561,0,(some 1)⟩) 1 1,s0,.slice (some ⟨139594,0,(some 1)⟩) 0 0,.slice (some ⟨139604,0,(some 1)⟩) 1 1,.slice (some ⟨139679,0,(some 1)⟩) 1 1]⟩ 160
def aQ5:Obj:=.cells ⟨[s0,.slice (some ⟨130285,0,(some 1)⟩) 1 1,.slice (some ⟨130293,0,(some 1)⟩) 1 1,.slice (some ⟨139752,0,(some 260)⟩) 2 2,.slice (some ⟨139724,0,(some 1)⟩) 2 2,.int .i64 9,s0,j0,.bool true,j0,j0,j0,jm,j0,.bool false,j0]⟩ 98
def aQ6:Obj:=.cells ⟨[jm,s0,.int .i64 1,.slice (some ⟨139664,0,(some 1)⟩) 0 0]⟩ 202
def aQ7:Obj:=.cells ⟨[jm,s0,.int .i64 1,.slice (some ⟨134936,0,(some 1)⟩) 0 0]⟩ 202
def aQs:List Value:=[.agg ⟨[.slice (some ⟨3287,0,(some 1)⟩) 1 1,.slice (some ⟨5849,0,(some 1)⟩) 1 1,.slice (some ⟨5862,0,(some 1)⟩) 1 1,.slice (some ⟨120843,0,(some 260)⟩) 2 2]⟩,.int .i64 9]
def aQt:Value:=.tuple ⟨[.pointer (some ⟨130266,0,(some 0)⟩),j0]⟩
def aOk:Cp where
 f:=vW
 args:=aQs
 h:=kTb (kTb (kTb (kTb (kTl (kTb (kTr (kTr (kTr (kTl (kTr (kTl (kTr (kTr (kTr (kTf (.cells ⟨[]⟩ 5))))))))))) (kTb (kTl (kTl (kTl (kTl (kTr (kTr (kTl (kTr (kTr (kTf aQE)))))))))) (kTb (kTr (kTl (kTr (kTl (kTr (kTr (kTr (kTf uZ)))))))) (kTl (kTr (kTr (kTl (kTr (kTl (kTr (kTr (kTf (.cells ⟨[]⟩ 5)))))))))))))) (kTb (kTb (kTb (kTl (kTr (kTr (kTr (kTl (kTr (kTl (kTr (kTr (kTf (.cells ⟨[]⟩ 3))))))))))) (kTr (kTr (kTl (kTr (kTl (kTr (kTr (kTr (kTf aBh)))))))))) (kTr (kTr (kTb (kTr (kTr (kTl (kTr (kTl (kTr (kTr (kTf aMZ)))))))) (kTb (kTr (kTl (kTr (kTr (kTr (kTf (.cells ⟨[]⟩ 3))))))) (kTr (kTl (kTr (kTl (kTr (kTr (kTf aM0)))))))))))) (kTb (kTr (kTr (kTb (kTl (kTr (kTf kO2))) (kTl (kTr (kTl (kTr (kTr (kTr (kTf aBi)))))))))) (kTr (kTr (kTl (kTr (kTr (kTl (kTr (kTl (kTr (kTr (kTf aM1)))))))))))))) (kTb (kTl (kTr (kTr (kTr (kTr (kTl (kTr (kTl (kTr (kTr (kTr (kTf (.cells ⟨[]⟩ 3))))))))))))) (kTb (kTb (kTl (kTl (kTl (kTl (kTl (kTr (kTr (kTl (kTr (kTr (kTf aPN))))))))))) (kTl (kTl (kTr (kTr (kTr (kTl (kTf kO1)))))))) (kTr (kTr (kTl (kTr (kTr (kTf kO0))))))))) (kTb (kTb (kTr (kTr (kTr (kTr (kTr (kTf kO1)))))) (kTb (kTl (kTl (kTr (kTl (kTr (kTr (kTl (kTr (kTr (kTr (kTf kO1))))))))))) (kTl (kTr (kTr (kTl (kTr (kTr (kTl (kTf kY)))))))))) (kTb (kTr (kTb (kTl (kTl (kTr (kTr (kTr (kTl (kTr (kTl (kTr (kTr (kTf kO1))))))))))) (kTr (kTr (kTr (kTl (kTr (kTl (kTr (kTr (kTr (kTf fM)))))))))))) (kTr (kTr (kTr (kTl (kTr (kTl (kTl (kTf kO6))))))))))) (kTb (kTb (kTn (kTr (kTr (kTr (kTl (kTl (kTr (kTr (kTl (kTr (kTl (kTr (kTr (kTf (.cells ⟨[]⟩ 3)))))))))))))) kO2 (kTb (kTl (kTl (kTr (kTl (kTr (kTr (kTl (kTr (kTr (kTr (kTf kO1))))))))))) (kTb (kTl (kTr (kTl (kTr (kTf kO1))))) (kTl (kTr (kTr (kTr (kTr (kTl (kTr (kTr (kTr (kTf kO1))))))))))))) (kTb (kTb (kTr (kTr (kTl (kTl (kTr (kTr (kTl (kTr (kTl (kTr (kTr (kTf aM2)))))))))))) (kTb (kTr (kTl (kTl (kTr (kTr (kTl (kTr (kTl (kTr (kTr (kTf aM3))))))))))) (kTr (kTl (kTl (kTr (kTr (kTl (kTr (kTl (kTr (kTr (kTf (.cells ⟨[]⟩ 3)))))))))))))) (kTl (kTb (kTr (kTl (kTl (kTr (kTr (kTl (kTr (kTl (kTr (kTr (kTf (.cells ⟨[]⟩ 5)))))))))))) (kTr (kTr (kTr (kTl (kTr (kTl (kTr (kTl (kTr (kTr (kTf uZ))))))))))))))) (kTb (kTb (kTb (kTl (kTl (kTr (kTl (kTr (kTr (kTl (kTr (kTl (kTr (kTr (kTf fM)))))))))))) (kTl (kTr (kTl (kTl (kTr (kTr (kTl (kTr (kTr (kTr (kTf (.cells ⟨[]⟩ 5))))))))))))) (kTb (kTr (kTb (kTr (kTl (kTr (kTf kO3)))) (kTl (kTl (kTr (kTr (kTl (kTr (kTr (kTr (kTf aBj))))))))))) (kTb (kTr (kTl (kTb (kTr (kTr (kTl (kTr (kTr (kTr (kTf aBk))))))) (kTr (kTr (kTl (kTr (kTr (kTr (kTf aBl)))))))))) (kTr (kTl (kTl (kTr (kTr (kTl (kTr (kTr (kTr (kTf (.cells ⟨[]⟩ 3)))))))))))))) (kTl (kTb (kTr (kTr (kTr (kTl (kTr (kTr (kTl (kTf fM)))))))) (kTl (kTl (kTl (kTr (kTr (kTr (kTl (kTr (kTl (kTr (kTr (kTf kO1))))))))))))))))
 nx:=120869
 v:=aQt
 h':=kTb (kTb (kTb (kTb (kTl (kTb (kTr (kTr (kTr (kTl (kTr (kTl (kTr (kTr (kTr (kTf (.cells ⟨[]⟩ 5))))))))))) (kTb (kTb (kTl (kTl (kTl (kTr (kTr (kTl (kTr (kTr (kTf aQE))))))))) (kTr (kTl (kTl (kTl (kTl (kTr (kTl (kTl (kTl (kTf aQT))))))))))) (kTb (kTr (kTl (kTr (kTl (kTr (kTr (kTr (kTf uZ)))))))) (kTl (kTr (kTr (kTl (kTr (kTl (kTr (kTr (kTf (.cells ⟨[]⟩ 5)))))))))))))) (kTb (kTb (kTb (kTl (kTr (kTr (kTr (kTl (kTr (kTl (kTr (kTr (kTf (.cells ⟨[]⟩ 3))))))))))) (kTr (kTr (kTl (kTr (kTl (kTr (kTr (kTr (kTf aBh)))))))))) (kTb (kTl (kTr (kTr (kTr (kTr (kTl (kTl (kTl (kTl (kTl (kTf aQU))))))))))) (kTr (kTb (kTr (kTr (kTl (kTr (kTl (kTr (kTr (kTf aMZ)))))))) (kTb (kTr (kTl (kTr (kTr (kTr (kTf (.cells ⟨[]⟩ 3))))))) (kTr (kTl (kTr (kTl (kTr (kTr (kTf aM0)))))))))))) (kTb (kTr (kTr (kTb (kTl (kTr (kTf kO2))) (kTl (kTr (kTl (kTr (kTr (kTr (kTf aBi)))))))))) (kTr (kTr (kTl (kTr (kTr (kTl (kTr (kTl (kTr (kTr (kTf aM1)))))))))))))) (kTb (kTb (kTb (kTr (kTl (kTl (kTr (kTr (kTr (kTl (kTl (kTl (kTl (kTl (kTf uZ)))))))))))) (kTr (kTr (kTr (kTl (kTr (kTl (kTr (kTr (kTr (kTf (.cells ⟨[]⟩ 3)))))))))))) (kTr (kTl (kTr (kTr (kTl (kTl (kTl (kTl (kTr (kTl (kTl (kTl (kTf aQV)))))))))))))) (kTb (kTb (kTl (kTl (kTl (kTl (kTl (kTr (kTr (kTl (kTr (kTr (kTf aPN))))))))))) (kTl (kTl (kTr (kTr (kTr (kTl (kTf kO1)))))))) (kTr (kTb (kTb (kTr (kTr (kTr (kTr (kTl (kTl (kTl (kTl (kTl (kTf aQW)))))))))) (kTl (kTl (kTl (kTl (kTl (kTr (kTl (kTl (kTl (kTf uZ))))))))))) (kTl (kTr (kTr (kTf kO0))))))))) (kTb (kTb (kTr (kTr (kTb (kTr (kTl (kTr (kTr (kTr (kTl (kTl (kTl (kTl (kTl (kTf aQX))))))))))) (kTr (kTr (kTf kO1)))))) (kTb (kTb (kTl (kTr (kTl (kTr (kTr (kTl (kTr (kTr (kTr (kTf kO1)))))))))) (kTl (kTl (kTr (kTl (kTl (kTl (kTl (kTr (kTl (kTl (kTl (kTf aQY))))))))))))) (kTl (kTr (kTr (kTl (kTr (kTr (kTl (kTf kY)))))))))) (kTb (kTr (kTb (kTl (kTl (kTr (kTr (kTr (kTl (kTr (kTl (kTr (kTr (kTf kO1))))))))))) (kTr (kTr (kTb (kTl (kTr (kTr (kTr (kTr (kTr (kTr (kTf fM)))))))) (kTl (kTr (kTl (kTr (kTr (kTr (kTf fM)))))))))))) (kTb (kTr (kTr (kTr (kTl (kTl (kTr (kTr (kTr (kTr (kTr (kTr (kTf kY)))))))))))) (kTr (kTr (kTl (kTr (kTl (kTl (kTf kO6))))))))))) (kTb (kTb (kTn (kTr (kTb (kTl (kTr (kTr (kTl (kTl (kTl (kTl (kTr (kTl (kTl (kTl (kTf (.cells ⟨[]⟩ 5))))))))))))) (kTr (kTb (kTl (kTr (kTr (kTl (kTr (kTl (kTr (kTr (kTf (.cells ⟨[]⟩ 3)))))))))) (kTl (kTl (kTl (kTl (kTl (kTr (kTl (kTl (kTl (kTf aQZ)))))))))))))) kO2 (kTb (kTb (kTl (kTr (kTl (kTr (kTr (kTl (kTr (kTr (kTr (kTf kO1)))))))))) (kTr (kTr (kTr (kTl (kTl (kTl (kTl (kTr (kTl (kTl (kTl (kTf aQ0))))))))))))) (kTb (kTl (kTb (kTr (kTr (kTr (kTr (kTl (kTl (kTl (kTl (kTl (kTf (.cells ⟨[]⟩ 5))))))))))) (kTl (kTr (kTf kO1))))) (kTb (kTr (kTr (kTr (kTr (kTl (kTr (kTr (kTr (kTf kO1))))))))) (kTl (kTl (kTr (kTr (kTr (kTl (kTl (kTl (kTl (kTl (kTf aQ1))))))))))))))) (kTb (kTb (kTr (kTr (kTl (kTl (kTr (kTr (kTl (kTr (kTl (kTr (kTr (kTf aM2)))))))))))) (kTb (kTr (kTb (kTb (kTr (kTr (kTl (kTr (kTl (kTr (kTr (kTf aM3)))))))) (kTl (kTl (kTl (kTl (kTr (kTl (kTl (kTl (kTf kO1)))))))))) (kTl (kTl (kTl (kTl (kTl (kTr (kTl (kTl (kTl (kTf (.cells ⟨[]⟩ 3))))))))))))) (kTr (kTl (kTl (kTr (kTr (kTl (kTr (kTl (kTr (kTr (kTf (.cells ⟨[]⟩ 3)))))))))))))) (kTb (kTb (kTr (kTb (kTl (kTr (kTr (kTl (kTr (kTl (kTr (kTr (kTf (.cells ⟨[]⟩ 5)))))))))) (kTr (kTl (kTl (kTl (kTl (kTr (kTl (kTl (kTl (kTf aQ2)))))))))))) (kTr (kTr (kTr (kTl (kTr (kTl (kTr (kTl (kTr (kTr (kTf uZ)))))))))))) (kTl (kTr (kTb (kTl (kTr (kTr (kTr (kTl (kTl (kTl (kTl (kTl (kTf (.cells ⟨[]⟩ 3))))))))))) (kTl (kTr (kTr (kTr (kTl (kTl (kTl (kTl (kTl (kTf kO1)))))))))))))))) (kTb (kTb (kTb (kTb (kTl (kTr (kTl (kTr (kTr (kTl (kTr (kTl (kTr (kTr (kTf fM))))))))))) (kTl (kTr (kTl (kTr (kTr (kTr (kTl (kTl (kTl (kTl (kTl (kTf (.cells ⟨[]⟩ 5)))))))))))))) (kTb (kTr (kTb (kTl (kTr (kTr (kTl (kTr (kTr (kTr (kTf (.cells ⟨[]⟩ 5))))))))) (kTl (kTr (kTr (kTr (kTl (kTl (kTl (kTl (kTl (kTf (.cells ⟨[]⟩ 3))))))))))))) (kTl (kTl (kTr (kTr (kTr (kTr (kTl (kTl (kTl (kTl (kTl (kTf aQ3)))))))))))))) (kTb (kTb (kTr (kTl (kTr (kTl (kTl (kTl (kTl (kTr (kTl (kTl (kTl (kTf (.cells ⟨[]⟩ 3))))))))))))) (kTb (kTr (kTb (kTr (kTf kO3)) (kTl (kTl (kTl (kTl (kTr (kTl (kTl (kTl (kTf aQ4))))))))))) (kTl (kTl (kTr (kTr (kTl (kTr (kTr (kTr (kTf aBj))))))))))) (kTb (kTb (kTl (kTr (kTl (kTl (kTl (kTl (kTr (kTl (kTl (kTl (kTf (.cells ⟨[]⟩ 5)))))))))))) (kTb (kTb (kTr (kTr (kTl (kTr (kTr (kTr (kTf aBk))))))) (kTr (kTr (kTl (kTr (kTr (kTr (kTf aBl)))))))) (kTl (kTl (kTr (kTr (kTr (kTr (kTr (kTr (kTf aQ5))))))))))) (kTr (kTl (kTl (kTr (kTr (kTl (kTr (kTr (kTr (kTf (.cells ⟨[]⟩ 3)))))))))))))) (kTb (kTb (kTr (kTr (kTb (kTb (kTr (kTr (kTr (kTl (kTl (kTl (kTl (kTl (kTf fM))))))))) (kTl (kTl (kTl (kTl (kTr (kTl (kTl (kTl (kTf aQ6)))))))))) (kTb (kTr (kTr (kTl (kTf fM)))) (kTl (kTl (kTl (kTl (kTr (kTl (kTl (kTl (kTf kO1))))))))))))) (kTl (kTl (kTl (kTr (kTr (kTr (kTl (kTr (kTl (kTr (kTr (kTf kO1))))))))))))) (kTb (kTr (kTr (kTb (kTr (kTr (kTr (kTr (kTl (kTl (kTl (kTl (kTl (kTf kO1)))))))))) (kTl (kTr (kTr (kTr (kTl (kTl (kTl (kTl (kTl (kTf aQ7))))))))))))) (kTl (kTr (kTr (kTl (kTl (kTl (kTl (kTl (kTr (kTl (kTl (kTl (kTf fM)))))))))))))))))
 nx':=139759
theorem aME:rM Tryz.prog aOk:=tE kI (l:=[rV,aMD]) (bD i5 (bD aHX kH)) (k:=200) fun ro=>by kernel_rfl
end V
end Go.Proofs.YtcaccnneblghgaaGreat
namespace Go.Proofs.YtcaccnneblghgaaGreat
namespace V
set_option maxRecDepth 1000000 in
theorem aL1:Orc Tryz.prog t6 (.bool true):=aOH okZ okN okM kI (l:=[rV,aMD,aOk]) (bD i5 (bD aHX (bD aME kH))) (k:=200) rfl (by kernel_rfl) fun ro=>by kernel_rfl
theorem aOQ {ro:Ro} {h:T Obj} {nx:Nat} {K:KV} (hK:K (.bool true) h nx):aN Tryz.prog ro t6 [] h nx K:=aKk aL1 hK
end V
end Go.Proofs.YtcaccnneblghgaaGreat
namespace Go.Proofs.YtcaccnneblghgaaGreat
namespace V
attribute [local irreducible] tC aN aB
@[irreducible] def kW (ro:Ro) (K:KV):Env→T Obj→Nat→Prop:=fun e h nx=>ifP (e 5) true h (nx+2) (fun t'=>t' (e 12) h (nx+3)) fun u' c' d'=>ifP (e 5) true c' d' (fun v'=>aB (aO .eql u' (Value.int IntKind.i64 0)) fun w'=>v' w' c' (d'+1)) fun x' e' f'=>aB (bK (e 5) x' (Value.bool false)) fun b'=>ifP b' true e' (f'+2) (fun y'=>y' (e 9) e' (f'+3)) fun z' g' h'=>ifP b' true g' h' (fun A'=>aN Tryz.prog ro mJ [z'] g' (h'+1) fun B' C' D'=>A' B' C' D') fun E' i' j'=>ifP b' true i' j' (fun F'=>aB (aO .eql E' (Value.int IntKind.i64 0)) fun G'=>F' G' i' (j'+1)) fun H' k' l'=>aB (bK b' H' (Value.bool false)) fun a'=>ifP a' true k' (l'+2) (fun I'=>I' (e 9) k' (l'+3)) fun J' m' n'=>ifP a' true m' n' (fun K'=>aN Tryz.prog ro lK [J'] m' (n'+1) fun L' M' N'=>K' L' M' N') fun O' o' p'=>ifP a' true o' p' (fun P'=>P' (e 6) o' (p'+1)) fun Q' q' r'=>ifP a' true q' r' (fun R'=>aB (aO .geq O' Q') fun S'=>R' S' q' (r'+1)) fun T' U' V'=>aB (bK a' T' (Value.bool false)) fun W'=>∃ s',Sub s' U'∧K W' s' (V'+2)
@[irreducible] def tM (ro:Ro):PT:=fun e h nx Q=>aB (aO .lss (e 60) (e 59)) fun g'=>aS g' (aB (cJ 3 (e 58) (e 60)) fun h'=>aB (loadA ro h 3 h') fun i'=>aB (zer Tryz.prog bE) fun a1'=>cS h (nx+3) (.cells a1'.cells bE) fun a2'=>aB (bS 3 a2' (ptr (nx+3)) i') fun j'=>aB (aR 1 (ptr (nx+3))) fun k'=>aB (load1 ro j' k') fun l'=>aB (aO .lss l' (e 13)) fun b'=>ifP b' false j' (nx+10) (fun a3'=>aB (aR 2 (ptr (nx+3))) fun a4'=>a3' a4' j' (nx+11)) fun m' n' ab'=>ifP b' false n' ab' (fun a5'=>aB (load1 ro n' m') fun a6'=>a5' a6' n' (ab'+1)) fun o' ac' ad'=>ifP b' false ac' ad' (fun a7'=>aB (aR 1 (ptr (nx+3))) fun a8'=>a7' a8' ac' (ad'+1)) fun p' q' ae'=>ifP b' false q' ae' (fun a9'=>aB (load1 ro q' p') fun ba'=>a9' ba' q' (ae'+1)) fun r' af' ag'=>ifP b' false af' ag' (fun bb'=>aB (aO .leq o' r') fun bc'=>bb' bc' af' (ag'+1)) fun s' ah' ai'=>aB (bK b' (Value.bool true) s') fun e'=>ifP e' false ah' (ai'+2) (fun bd'=>aB (aR 2 (ptr (nx+3))) fun be'=>bd' be' ah' (ai'+3)) fun t' u' aj'=>ifP e' false u' aj' (fun bf'=>aB (load1 ro u' t') fun bg'=>bf' bg' u' (aj'+1)) fun v' ak' al'=>ifP e' false ak' al' (fun bh'=>bh' (e 6) ak' (al'+1)) fun w' am' an'=>ifP e' false am' an' (fun bi'=>aB (aO .gtr v' w') fun bj'=>bi' bj' am' (an'+1)) fun x' ao' ap'=>aB (bK e' (Value.bool true) x') fun f'=>ifP f' false ao' (ap'+2) (fun bk'=>aB (aR 0 (ptr (nx+3))) fun bl'=>bk' bl' ao' (ap'+3)) fun y' z' aq'=>ifP f' false z' aq' (fun bm'=>aB (load1 ro z' y') fun bn'=>bm' bn' z' (aq'+1)) fun A' ar' as'=>ifP f' false ar' as' (fun bo'=>aB (aO .lss A' (Value.int IntKind.i64 (-1))) fun bp'=>bo' bp' ar' (as'+1)) fun B' at' au'=>aB (bK f' (Value.bool true) B') fun a'=>ifP a' false at' (au'+2) (fun bq'=>aB (aR 0 (ptr (nx+3))) fun br'=>bq' br' at' (au'+3)) fun C' D' av'=>ifP a' false D' av' (fun bs'=>aB (load1 ro D' C') fun bt'=>bs' bt' D' (av'+1)) fun E' aw' ax'=>ifP a' false aw' ax' (fun bu'=>aB (aR 1 (e 2)) fun bv'=>bu' bv' aw' (ax'+1)) fun F' G' ay'=>ifP a' false G' ay' (fun bw'=>aB (load1 ro G' F') fun bx'=>bw' bx' G' (ay'+1)) fun H' az' aA'=>ifP a' false az' aA' (fun by'=>aB (bH H') fun bz'=>by' bz' az' (aA'+1)) fun I' aB' aC'=>ifP a' false aB' aC' (fun bA'=>aB (aO .geq E' I') fun bB'=>bA' bB' aB' (aC'+1)) fun J' aD' aE'=>aB (bK a' (Value.bool true) J') fun c'=>ifP c' false aD' (aE'+2) (fun bC'=>aB (aR 0 (ptr (nx+3))) fun bD'=>bC' bD' aD' (aE'+3)) fun K' L' aF'=>ifP c' false L' aF' (fun bE'=>aB (load1 ro L' K') fun bF'=>bE' bF' L' (aF'+1)) fun M' aG' aH'=>ifP c' false aG' aH' (fun bG'=>aB (aO .geq M' (Value.int IntKind.i64 0)) fun bH'=>bG' bH' aG' (aH'+1)) fun N' aI' aJ'=>ifP c' false aI' aJ' (fun bI'=>bI' N' aI' (aJ'+1)) fun d' aK' aL'=>ifP d' true aK' aL' (fun bJ'=>aB (aR 1 (e 2)) fun bK'=>bJ' bK' aK' (aL'+1)) fun O' P' aM'=>ifP d' true P' aM' (fun bL'=>aB (load1 ro P' O') fun bM'=>bL' bM' P' (aM'+1)) fun Q' aN' aO'=>ifP d' true aN' aO' (fun bN'=>aB (aR 0 (ptr (nx+3))) fun bO'=>bN' bO' aN' (aO'+1)) fun R' S' aP'=>ifP d' true S' aP' (fun bP'=>aB (load1 ro S' R') fun bQ'=>bP' bQ' S' (aP'+1)) fun T' aQ' aR'=>ifP d' true aQ' aR' (fun bR'=>aB (cJ 1 Q' T') fun bS'=>bR' bS' aQ' (aR'+1)) fun U' V' aS'=>ifP d' true V' aS' (fun bT'=>aB (load1 ro V' U') fun bU'=>bT' bU' V' (aS'+1)) fun W' aT' aU'=>ifP d' true aT' aU' (fun bV'=>aB (aCC .eql W' (Value.string { data:=#[] })) fun bW'=>bV' bW' aT' (aU'+1)) fun X' aV' aW'=>ifP c' false aV' aW' (fun bX'=>aB (bK d' X' (Value.bool false)) fun bY'=>bX' bY' aV' (aW'+1)) fun Y' Z' aX'=>aB (bK c' (Value.bool true) Y') fun aa'=>aS aa' (Q .ret (puts e [(61,g'),(62,h'),(63,i'),(15,(ptr (nx+3))),(64,k'),(65,l'),(66,(e 13)),(67,b'),(68,b'),(69,m'),(70,o'),(71,p'),(72,r'),(73,s'),(74,e'),(75,e'),(76,t'),(77,v'),(78,w'),(79,x'),(80,f'),(81,f'),(82,y'),(83,A'),(84,B'),(85,a'),(86,a'),(87,C'),(88,E'),(89,F'),(90,H'),(91,I'),(92,J'),(93,c'),(94,c'),(95,K'),(96,M'),(97,N'),(98,d'),(99,O'),(100,Q'),(101,R'),(102,T'),(103,U'),(104,W'),(105,X'),(106,Y'),(107,aa'),(4,(Value.bool false))]) Z' (aX'+2)) (aB (aR 2 (ptr (nx+3))) fun aY'=>aB (load1 ro Z' aY') fun aZ'=>aB (aO .add (e 60) (Value.int IntKind.i64 1)) fun a0'=>Q .normal (puts e [(61,g'),(62,h'),(63,i'),(15,(ptr (nx+3))),(64,k'),(65,l'),(66,(e 13)),(67,b'),(68,b'),(69,m'),(70,o'),(71,p'),(72,r'),(73,s'),(74,e'),(75,e'),(76,t'),(77,v'),(78,w'),(79,x'),(80,f'),(81,f'),(82,y'),(83,A'),(84,B'),(85,a'),(86,a'),(87,C'),(88,E'),(89,F'),(90,H'),(91,I'),(92,J'),(93,c'),(94,c'),(95,K'),(96,M'),(97,N'),(98,d'),(99,O'),(100,Q'),(101,R'),(102,T'),(103,U'),(104,W'),(105,X'),(106,Y'),(107,aa'),(108,aY'),(109,aZ'),(13,aZ'),(110,a0'),(60,a0')]) Z' (aX'+6))) (Q (.exit 2) (puts e [(61,g')]) h (nx+1))
@[irreducible] def kV (ro:Ro) (K:KV):Env→T Obj→Nat→Prop:=fun e h nx=>aB (loadA ro h 4 (e 2)) fun j'=>aB (eD Tryz.prog h .max #[dK,dK] [(e 6),(Value.int IntKind.i64 1)]) fun k'=>aN Tryz.prog ro vW [j',k'] h (nx+4) fun c' l' m'=>aB (nth 0 c') fun a'=>aB (nth 1 c') fun f'=>aB (aAc .eql a' (Value.pointer none)) fun b'=>ifP b' false l' (m'+8) (fun y'=>y' f' l' (m'+9)) fun n' o' p'=>ifP b' false o' p' (fun z'=>aB (aO .neq n' (Value.int IntKind.i64 0)) fun A'=>z' A' o' (p'+1)) fun q' r' s'=>aB (bK b' (Value.bool true) q') fun t'=>aS t' (∃ u',Sub u' r'∧K (Value.bool false) u' (s'+2)) (aN Tryz.prog ro pA [(e 1)] r' (s'+4) fun v' B' C'=>aN Tryz.prog ro xW [a',v'] B' (C'+1) fun d' D' E'=>aB (nth 0 d') fun e'=>aB (nth 1 d') fun w'=>aB (bH e') fun F'=>dN (tM ro) (puts e [(39,j'),(40,(e 6)),(41,k'),(42,c'),(38,c'),(43,a'),(44,f'),(9,a'),(10,f'),(45,a'),(46,b'),(47,b'),(48,n'),(49,q'),(50,t'),(52,a'),(53,(e 1)),(54,v'),(55,d'),(51,d'),(56,e'),(57,w'),(11,e'),(12,w'),(13,(Value.int IntKind.i64 0)),(58,e'),(59,F'),(60,(Value.int IntKind.i64 0))]) D' (E'+9) fun G' g' h' i'=>exP G' (kW ro K g' h' i') (fun H'=>cM (Nat.beq H' 2) (kW ro K g' h' i') (False)) (∃ x',Sub x' h'∧K (g' 4) x' i'))
@[irreducible] def tN (ro:Ro):PT:=fun e h nx Q=>aB (aO .lss (e 29) (e 28)) fun b'=>aS b' (aB (cJ 1 (e 27) (e 29)) fun c'=>aB (load1 ro h c') fun a'=>aB (bH a') fun d'=>aB (aO .add (e 6) d') fun e'=>aB (aO .add (e 29) (Value.int IntKind.i64 1)) fun f'=>Q .normal (puts e [(30,b'),(31,c'),(32,a'),(8,a'),(33,(e 6)),(34,a'),(35,d'),(36,e'),(6,e'),(37,f'),(29,f')]) h (nx+11)) (Q (.exit 0) (puts e [(30,b')]) h (nx+1))
@[irreducible] def x5 (ro:Ro) (v0 v1:Value) (h:T Obj) (nx:Nat) (K:KV):Prop:=cS h nx (.cells (Value.cells v0) dC) fun h1=>aN Tryz.prog ro t6 [] h1 (nx+3) fun b' h3 n4=>aB (loadA ro h3 4 (ptr nx)) fun f'=>aN Tryz.prog ro xX [f'] h3 (n4+3) fun g' h7 n8=>aB (unV .not g') fun a'=>ifP a' false h7 (n8+2) (fun u'=>aB (loadA ro h7 4 (ptr nx)) fun v'=>u' v' h7 (n8+3)) fun h' i' j'=>ifP a' false i' j' (fun w'=>aN Tryz.prog ro uE [h'] i' (j'+1) fun x' y' z'=>w' x' y' z') fun k' l' m'=>ifP a' false l' m' (fun A'=>aB (unV .not k') fun B'=>A' B' l' (m'+1)) fun n' o' p'=>aB (bK a' (Value.bool true) n') fun q'=>aS q' (∃ r',Sub r' o'∧K b' r' (p'+3)) (aN Tryz.prog ro pA [v1] o' (p'+4) fun s' C' D'=>aB (bH s') fun E'=>dN (tN ro) (puts (gI [v0,v1]) [(2,(ptr nx)),(4,(Value.bool false)),(16,b'),(5,b'),(17,f'),(18,g'),(19,a'),(20,a'),(21,h'),(22,k'),(23,n'),(24,q'),(6,(Value.int IntKind.i64 0)),(26,v1),(27,s'),(28,E'),(29,(Value.int IntKind.i64 0))]) C' (D'+2) fun F' c' d' e'=>exP F' (kV ro K c' d' e') (fun G'=>cM (Nat.beq G' 0) (kV ro K c' d' e') (False)) (∃ t',Sub t' d'∧K (c' 4) t' e'))
theorem aBJ {ro:Ro} {v0 v1:Value} {h:T Obj} {nx:Nat} {K:KV} (hw:x5 ro v0 v1 h nx K):aN Tryz.prog ro uY [v0,v1] h nx K:=a7 (P:=Tryz.prog) (fn:=Tryz.f4) (by kernel_rfl) (by kernel_rfl) (by kernel_rfl) (Eq.mpr (by kernel_rfl) hw)
end V
end Go.Proofs.YtcaccnneblghgaaGreat
namespace Go.Proofs.YtcaccnneblghgaaGreat
namespace V
attribute [local irreducible] aB ifP aS cS eT exP cM
theorem aMf (h:T Obj) (a b:Int):eD Tryz.prog h .max #[dK,dK] [.int .i64 a,.int .i64 b]=some (.int .i64 (if a < b then b else a)):=by
 simp only [eD,aGX,aHy]
 by_cases hb:a < b<;>simp [hb]
theorem aOI {ro:Ro} {h:T Obj} {v:Value} {ls:List (List Nat)} (hv:SlR ro h v 1 (aJs ro h) ls):SlR ro h v 1 (RB ro h) ls∧(∀ b∈ls,b.length≤kO)∧∀ b∈ls,∀ x∈b,x < 256:=by
 refine ⟨hv.imp fun x d ⟨w,h1,h2,h3⟩=>⟨w,h1,(aOq h2).1⟩,fun b hb=>?_,fun b hb=>?_⟩
 ·obtain ⟨i,hi⟩:=List.getElem?_of_mem hb
  obtain ⟨hl,rfl⟩:=List.getElem?_eq_some_iff.1 hi
  obtain ⟨w,⟨w',_,_,h3⟩,_⟩:=hv.at1 hl
  exact h3
 ·obtain ⟨i,hi⟩:=List.getElem?_of_mem hb
  obtain ⟨hl,rfl⟩:=List.getElem?_eq_some_iff.1 hi
  obtain ⟨w,⟨w',_,h2,_⟩,_⟩:=hv.at1 hl
  exact (aOq h2).2
section
variable {T:TabD}
theorem aCQ (hT:TabR T):∀ (l:List (List Nat)) (s:ScD),ScI T s→s.closed=false→(∀ b∈l,∀ x∈b,x < 256)→s.at_+s.took≤s.steps→(cB T s l).2.at_+(cB T s l).2.took≤(cB T s l).2.steps
 | [],s,_,_,_,h=>h
 | b::l,s,hI,hcl,hb,h=>by
  obtain ⟨h1,h2,_,_⟩:=aBe hT hI hcl b (hb b (by simp))
  exact aCQ hT l _ h1 h2 (fun c hc=>hb c (by simp [hc])) (aEZ hT _ _ (aHB hI (hb b (by simp))) h)
theorem aN6 (hT:TabR T) {l:List (List Nat)} (hb:∀ b∈l,∀ x∈b,x < 256):(s8 T (gJ T) l).2.kept=[]∧(s8 T (gJ T) l).2.at_=l.flatten.length∧l.flatten.length≤(s8 T (gJ T) l).2.steps:=by
 have hI:=aKU hT
 obtain ⟨k1,k2,k3,k4⟩:=vP hT l (gJ T) hI rfl hb
 have hs:=aCQ hT l (gJ T) hI rfl hb (Nat.le_refl _)
 obtain ⟨c1,c2⟩:=aIz hT.tok k1.ok k1.c
 have k3:(cB T (gJ T) l).2.at_+(cB T (gJ T) l).2.kept.length=l.flatten.length:=by
  rw [k3]; show 0+0+_=_; omega
 have hst:=aEZ hT (cB T (gJ T) l).2.kept.length { (cB T (gJ T) l).2 with closed:=true } (aAr k1) hs
 have hst:(kG T (cB T (gJ T) l).2).2.at_+(kG T (cB T (gJ T) l).2).2.took≤(kG T (cB T (gJ T) l).2).2.steps:=hst
 rw [uU]
 refine ⟨c1,by rw [c2,k3],?_⟩
 show _≤(kG T (cB T (gJ T) l).2).2.steps
 omega
end
theorem aN7 {T:TabD} (hT:TabR T) {l:List (List Nat)} (hb:∀ b∈l,∀ x∈b,x < 256):(s8 T (gJ T) l).1.length≤l.flatten.length:=by
 obtain ⟨k1,k2,k3,k4⟩:=vP hT l (gJ T) (aKU hT) rfl hb
 have hcc:=wI hT (cB T (gJ T) l).2.kept.length { (cB T (gJ T) l).2 with closed:=true } (aAr k1)
 have hcc:(kG T (cB T (gJ T) l).2).1.length+(kG T (cB T (gJ T) l).2).2.kept.length≤(cB T (gJ T) l).2.kept.length:=hcc
 have k4:(cB T (gJ T) l).1.length+(cB T (gJ T) l).2.kept.length≤0+l.flatten.length:=k4
 rw [uU]
 show ((cB T (gJ T) l).1++(kG T (cB T (gJ T) l).2).1).length≤_
 rw [List.length_append]
 omega
section
variable {ro:Ro} {h:T Obj} {nx:Nat} {K:KV}
set_option maxRecDepth 8000 in
set_option maxHeartbeats 4000000 in
theorem aBm {x:List Value} {Tb:TabD} {v:Value} {ls:List (List Nat)} (hf:Fr h nx) (hd:aCd ro h x Tb) (hv0:SlR ro h v 1 (aJs ro h) ls) (hl:ls.length≤kO) (hK:∀ h' nx',K (.bool true) h' nx'):aN Tryz.prog ro uY [.agg x.toArray,v] h nx K:=by
 obtain ⟨cv,kv,tv,ev,rfl,_,q2,_⟩:=id hd
 obtain ⟨hv,hlb,hb256⟩:=aOI hv0
 apply aBJ
 unfold x5
 refine eE hf (Nat.le_refl _) fun h1 hs1 hf1 g1 _=>?_
 have g1:h1.get nx=some (.cells [cv,kv,tv,ev].toArray dC):=g1
 refine aOQ ?_
 have hd1:=hd.sub hs1
 have hv1:=hv.sub hs1 (RB.sub hs1)
 refine aA (dG g1 rfl) ?_
 refine aHn (hf1.mono (by omega)) hd1 fun n2 hn2=>?_
 cases hfew:aH9 Tb with
 | false =>
  (repeat(first|refine aA (by simp (disch:=first|omega|exact nnN _|assumption) only [BB,B2,↓reduceIte,Nat.reduceLeDiff,Nat.reduceAdd,CC]<;>rfl) ?_|apply aD|apply aE|with_reducible first|apply aG|apply aF|apply aK|apply aH|apply aJ|apply aI|apply aL|apply aC))
  exact ⟨h1,Sub.refl _,hK _ _⟩
 | true =>
  (repeat(first|refine aA (by simp (disch:=first|omega|exact nnN _|assumption) only [BB,B2,↓reduceIte,Nat.reduceLeDiff,Nat.reduceAdd,CC]<;>rfl) ?_|apply aD|apply aE|with_reducible first|apply aG|apply aF|apply aK|apply aH|apply aJ|apply aI|apply aL|apply aC))
  refine aA (dG g1 rfl) ?_
  (repeat(first|refine aA (by simp (disch:=first|omega|exact nnN _|assumption) only [BB,B2,↓reduceIte,Nat.reduceLeDiff,Nat.reduceAdd,CC]<;>rfl) ?_|apply aD|apply aE|with_reducible first|apply aG|apply aF|apply aK|apply aH|apply aJ|apply aI|apply aL|apply aC))
  refine aFG (hf1.mono (by omega)) hd1 fun n3 hn3=>?_
  cases hr:fQ Tb with
  | false =>
   (repeat(first|refine aA (by simp (disch:=first|omega|exact nnN _|assumption) only [BB,B2,↓reduceIte,Nat.reduceLeDiff,Nat.reduceAdd,CC]<;>rfl) ?_|apply aD|apply aE|with_reducible first|apply aG|apply aF|apply aK|apply aH|apply aJ|apply aI|apply aL|apply aC))
   exact ⟨h1,Sub.refl _,hK _ _⟩
  | true =>
   have hT:=hd.right hr
   obtain ⟨_,_,_,hTl,_⟩:=aFk hr
   (repeat(first|refine aA (by simp (disch:=first|omega|exact nnN _|assumption) only [BB,B2,↓reduceIte,Nat.reduceLeDiff,Nat.reduceAdd,CC]<;>rfl) ?_|apply aD|apply aE|with_reducible first|apply aG|apply aF|apply aK|apply aH|apply aJ|apply aI|apply aL|apply aC))
   refine z8 (X:=[]) hv1 hl hlb (fun k hk=>by cases hk) (hf1.mono (by omega)) fun r4 h4 n4 hn4 hf4 hs4 hr4=>?_
   have hr4:SlR ro h4 r4 1 (RB ro h4) (mL ls):=hr4
   have hpb:=aMt hb256
   have hpf:=aJ0 ls
   have hpl:(mL ls).length≤12:=by rw [aAb]; omega
   have hr4l:=hr4.len
   refine aA hr4l ?_
   generalize hps:mL ls=ps at *
   refine bA (fun j e h' nx'=>∃ i:Nat,i+j=ps.length∧n4≤nx'∧h'=h4∧e 1=v∧e 2=ptr nx∧e 4=.bool false∧e 5=.bool true∧e 6=.int .i64 ((ps.take i).flatten.length:Nat)∧e 27=r4∧e 28=.int .i64 ps.length∧e 29=.int .i64 i) ?_ (n:=ps.length) ⟨0,by omega,by omega,rfl,rfl,rfl,rfl,rfl,rfl,rfl,rfl,rfl⟩
   rintro j e h' nx' ⟨i,hj,hnx,rfl,e1,e2,e4,e5,e6,e27,e28,e29⟩ Q' hq hx
   unfold tN
   rw [e6,e27,e28,e29]
   refine cU (fun hk=>?_) (fun hk=>?_)
   ·have hk:i < ps.length:=by omega
    obtain ⟨w,⟨w',hw,hwl⟩,hld⟩:=hr4.at1 hk
    cases hw
    have hwn:=hwl.len
    rw [dT] at hwn
    have hfs:=zC hk
    have hfl:=qQ (ls:=ps) (i+1)
    rw [hfs,List.length_append] at hfl
    have hadd:aO .add (.int .i64 (((ps.take i).flatten.length:Nat):Int)) (.int .i64 ((ps[i].length:Nat):Int))=some (.int .i64 (((ps.take (i+1)).flatten.length:Nat):Int)):=by
     rw [c7,hfs,List.length_append,show (((ps.take i).flatten.length:Nat):Int)+((ps[i].length:Nat):Int)=(((ps.take i).flatten.length+ps[i].length:Nat):Int) by omega,eN (by omega) (by omega)]
    (repeat(first|refine aA (by simp (disch:=first|omega|exact nnN _|assumption) only [BB,B2,↓reduceIte,Nat.reduceLeDiff,Nat.reduceAdd,CC]<;>rfl) ?_|apply aD|apply aE|with_reducible first|apply aG|apply aF|apply aK|apply aH|apply aJ|apply aI|apply aL|apply aC))
    refine aA (hr4.ix .i64 hk) (aA hld (aA hwn (aA hadd ?_)))
    (repeat(first|refine aA (by simp (disch:=first|omega|exact nnN _|assumption) only [BB,B2,↓reduceIte,Nat.reduceLeDiff,Nat.reduceAdd,CC]<;>rfl) ?_|apply aD|apply aE|with_reducible first|apply aG|apply aF|apply aK|apply aH|apply aJ|apply aI|apply aL|apply aC))
    exact hq (j - 1) _ _ _ _ (by omega) ⟨i+1,by omega,by omega,rfl,e1,e2,e4,e5,rfl,e27,e28,rfl⟩ (Sub.refl _)
   ·(repeat(first|refine aA (by simp (disch:=first|omega|exact nnN _|assumption) only [BB,B2,↓reduceIte,Nat.reduceLeDiff,Nat.reduceAdd,CC]<;>rfl) ?_|apply aD|apply aE|with_reducible first|apply aG|apply aF|apply aK|apply aH|apply aJ|apply aI|apply aL|apply aC))
    refine hx _ _ _ _ (fun e=>by cases e) (d4 (cO ?_))
    obtain rfl:i=ps.length:=by omega
    rw [List.take_length] at e6
    have hj1:∀ (e':Env) n',e' 1=v→e' 2=ptr nx→e' 5=.bool true→e' 6=.int .i64 (ps.flatten.length:Nat)→nx'≤n'→kV ro K e' h' n':=by
     intro e' n' d1 d2 d5 d6 dn
     unfold kV
     rw [d1,d2,d6]
     refine aA (dG (hs4 _ _ g1) rfl) (aA (aMf _ _ _) ?_)
     have hmx:(if ((ps.flatten.length:Nat):Int) < 1 then (1:Int) else ((ps.flatten.length:Nat):Int))=((max ps.flatten.length 1:Nat):Int):=by split<;>omega
     rw [hmx]
     refine aJg (X0:=[]) (hf4.mono (by omega)) (hd1.sub hs4) (fun b hb=>by cases hb) (fun h9=>by rcases h9 with h9 | h9<;>first | omega | (rw [hr] at h9; cases h9)) fun _ _ p qs h5 n5 hn5 hf5 hs5 hown hsc=>?_
     rw [List.nil_append] at hsc
     refine aA (aLJ _ _) (aA (aLK _ _) ?_)
     (repeat(first|refine aA (by simp (disch:=first|omega|exact nnN _|assumption) only [BB,B2,↓reduceIte,Nat.reduceLeDiff,Nat.reduceAdd,CC,aLI]<;>rfl) ?_|apply aD|apply aE|with_reducible first|apply aG|apply aF|apply aK|apply aH|apply aJ|apply aI|apply aL|apply aC))
     have hs15:=hs4.trans hs5
     have hD5:Sub h1 (del h5 (lM p qs)):=fun k o hk=>jV (hs15 k o hk) fun h9=>by
      have:=hf1.lt' hk
      have:=(hown k h9).1
      omega
     refine z8 (X:=lM p qs) (hv1.sub hD5 (RB.sub hD5)) hl hlb (fun k hk=>by have:=(hown k hk).2; omega) (hf5.mono (by omega)) fun r6 h6 n6 hn6 hf6 hs6 hr6=>?_
     rw [hps] at hr6
     have hsc6:ScX ro h6 (lM p qs) p qs Tb ((max ps.flatten.length 1:Nat):Int) 0 (gJ Tb):=hsc.sub hs6 (fun k hk=>.inl hk) fun k hk=>hk
     refine aHm hsc6 hT (aKU hT) (by omega) rfl (fun k hk=>by have:=(hown k hk).2; omega) hr6 (by omega) hpb (by show 0+0+ps.flatten.length≤400; omega) (by show ((0+ps.flatten.length:Nat):Int)≤_; omega) (hf6.mono (by omega)) fun r7 h7 n7 hn7 hf7 hk7 hs7 ho7=>?_
     refine aA (aLJ _ _) (aA (aLK _ _) ?_)
     obtain ⟨o1,o2,o3⟩:=aJu hT ps (gJ Tb) (aKU hT) rfl hpb
     obtain ⟨z1,z2,z3⟩:=aN6 hT hpb
     rw [z2] at o3
     have htl9:=aN7 hT hpb
     have hr7:=ho7.sl (ro:=ro)
     have hr7l:=hr7.len
     rw [nL] at hr7l
     refine aA hr7l ?_
     have hs17:Sub h1 h7:=hk7.base (hs15.trans hs6) hf1 fun k hk=>by have:=(hown k hk).1; omega
     have g7:=hs17 _ _ g1
     generalize hfin:(s8 Tb (gJ Tb) ps).2=sf at *
     generalize htk:(s8 Tb (gJ Tb) ps).1=toks at *
     have o1:aAU 0 toks:=o1
     generalize hN:ps.flatten.length=N at *
     have hj2:∀ (e':Env) (h8:T Obj) n',e' 5=.bool true→e' 6=.int .i64 (N:Nat)→e' 9=ptr p→e' 12=.int .i64 0→Sub h7 h8→kW ro K e' h8 n':=by
      intro e' h8 n' d5 d6 d9 d12 ds
      have hs8:ScX ro h8 (lM p qs) p qs Tb ((max N 1:Nat):Int) 0 sf:=hs7.sub ds (fun k hk=>.inl hk) fun k hk=>hk
      unfold kW
      rw [d5,d6,d9,d12]
      (repeat(first|refine aA (by simp (disch:=first|omega|exact nnN _|assumption) only [BB,B2,↓reduceIte,Nat.reduceLeDiff,Nat.reduceAdd,CC]<;>rfl) ?_|apply aD|apply aE|with_reducible first|apply aG|apply aF|apply aK|apply aH|apply aJ|apply aI|apply aL|apply aC))
      refine aI8 hs8 fun n9 hn9=>?_
      have hk0:((sf.kept.length:Nat):Int)=0:=by rw [z1]; rfl
      rw [hk0]
      (repeat(first|refine aA (by simp (disch:=first|omega|exact nnN _|assumption) only [BB,B2,↓reduceIte,Nat.reduceLeDiff,Nat.reduceAdd,CC]<;>rfl) ?_|apply aD|apply aE|with_reducible first|apply aG|apply aF|apply aK|apply aH|apply aJ|apply aI|apply aL|apply aC))
      refine aGo hs8 fun n10 hn10=>?_
      (repeat(first|refine aA (by simp (disch:=first|omega|exact nnN _|assumption) only [BB,B2,↓reduceIte,Nat.reduceLeDiff,Nat.reduceAdd,CC]<;>rfl) ?_|apply aD|apply aE|with_reducible first|apply aG|apply aF|apply aK|apply aH|apply aJ|apply aI|apply aL|apply aC))
      exact ⟨h8,Sub.refl _,hK _ _⟩
     refine bA (fun j e h' nx'=>∃ (i a:Nat),i+j=toks.length∧n7≤nx'∧Sub h7 h'∧Fr h' nx'∧e 2=ptr nx∧e 5=.bool true∧e 6=.int .i64 (N:Nat)∧e 9=ptr p∧e 12=.int .i64 0∧e 13=.int .i64 (a:Nat)∧e 58=r7∧e 59=.int .i64 toks.length∧e 60=.int .i64 i∧aAU a (toks.drop i)) ?_ (n:=toks.length) ⟨0,0,by omega,by omega,Sub.refl _,hf7.mono (by omega),d2,d5,d6,rfl,rfl,rfl,rfl,rfl,rfl,by rw [List.drop_zero]; exact o1⟩
     rintro j e h8 n8 ⟨i,a,hj,hnx,hs78,hf8,c2,c5,c6,c9,c12,c13,c58,c59,c60,hO⟩ Q' hq hx
     unfold tM
     rw [c2,c6,c13,c58,c59,c60]
     have hr8:=hr7.sub hs78
     refine cU (fun hk=>?_) (fun hk=>?_)
     ·have hk:i < toks.length:=by omega
      have hix:=hr8.ix .i64 (i:=i) (by rw [nL]; exact hk)
      have hld:=hr8.loadA (aLa hk)
      have hdr:toks.drop i=toks[i]::toks.drop (i+1):=List.drop_eq_getElem_cons hk
      rw [hdr] at hO
      obtain ⟨tt1,tt2⟩:=o3 _ (List.getElem_mem hk)
      generalize toks[i]=t at hld hO tt1 tt2
      obtain ⟨w1,w2,w3⟩:=hO
      (repeat(first|refine aA (by simp (disch:=first|omega|exact nnN _|assumption) only [BB,B2,↓reduceIte,Nat.reduceLeDiff,Nat.reduceAdd,CC]<;>rfl) ?_|apply aD|apply aE|with_reducible first|apply aG|apply aF|apply aK|apply aH|apply aJ|apply aI|apply aL|apply aC))
      refine aA hix (aA hld ?_)
      refine jD (x:=nP t) (n:=3) zK rfl rfl rfl rfl hf8 (by omega) fun h9 hs9 hf9 g9 _=>?_
      have t0:=aU (ro:=ro) (z:=0) g9 (show (nP t)[0]?=some (.int .i64 t.rule) from rfl)
      have t1:=aU (ro:=ro) (z:=0) g9 (show (nP t)[1]?=some (.int .i64 (t.from_:Int)) from rfl)
      have t2:=aU (ro:=ro) (z:=0) g9 (show (nP t)[2]?=some (.int .i64 (t.to:Int)) from rfl)
      have hs19:Sub h1 h9:=(hs17.trans hs78).trans hs9
      have lkv:=aU (ro:=ro) (z:=0) (hs19 _ _ g1) (show [cv,kv,tv,ev][1]?=some kv from rfl)
      have hkv:=q2.sub (hs1.trans hs19) (fun _ _ h=>h)
      have hkvl:=hkv.len
      have hgo:∀ (e':Env) (n':Nat),e' 2=ptr nx→e' 5=.bool true→e' 6=.int .i64 (N:Nat)→e' 9=ptr p→e' 12=.int .i64 0→e' 13=.int .i64 (t.to:Int)→e' 58=r7→e' 59=.int .i64 toks.length→e' 60=.int .i64 ((i:Int)+1)→n8+4≤n'→Q' .normal e' h9 n':=by
       intro e' n' b2 b5 b6 b9 b12 b13 b58 b59 b60 bn
       exact hq (j - 1) _ _ _ _ (by omega) ⟨i+1,t.to,by omega,by omega,hs78.trans hs9,hf9.mono (by omega),b2,b5,b6,b9,b12,b13,b58,b59,b60,w3⟩ (Sub.refl _)
      rcases tt2 with hr1 | ⟨hr1,hr2,hr3⟩
      ·have hr1b:¬ ((Tb.kinds.length:Nat):Int)≤t.rule:=by omega
       (repeat(first|refine aA (by simp (disch:=first|omega|exact nnN _|assumption) only [BB,B2,↓reduceIte,Nat.reduceLeDiff,Nat.reduceAdd,CC,t0,t1,t2,lkv,hkvl]<;>rfl) ?_|apply aD|apply aE|with_reducible first|apply aG|apply aF|apply aK|apply aH|apply aJ|apply aI|apply aL|apply aC))
       refine hgo _ _ ?_ ?_ ?_ ?_ ?_ rfl ?_ ?_ rfl ?_
       ·exact c2
       ·exact c5
       ·exact c6
       ·exact c9
       ·exact c12
       ·exact c58
       ·exact c59
       ·omega
      ·have hrl:t.rule.toNat < Tb.kinds.length:=by omega
       have hixk:=hkv.ixI .i64 hr1 (by omega)
       obtain ⟨hldk,_⟩:=xH.load hkv hrl
       have hgd:Tb.kinds.getD t.rule.toNat .empty=Tb.kinds[t.rule.toNat]:=by rw [List.getD_eq_getElem?_getD,List.getElem?_eq_getElem hrl]; rfl
       rw [hgd] at hr3
       have hne:¬ (Tb.kinds[t.rule.toNat]=.empty):=fun e9=>by rw [e9] at hr3; exact hr3 rfl
       generalize Tb.kinds[t.rule.toNat]=ks at hldk hne
       have hstr:aCC .eql (.string ks) (.string .empty)=some (.bool false):=by rw [aE1,decide_eq_false hne]
       (repeat(first|refine aA (by simp (disch:=first|omega|exact nnN _|assumption) only [BB,B2,↓reduceIte,Nat.reduceLeDiff,Nat.reduceAdd,CC,t0,t1,t2,lkv,hkvl]<;>rfl) ?_|apply aD|apply aE|with_reducible first|apply aG|apply aF|apply aK|apply aH|apply aJ|apply aI|apply aL|apply aC))
       refine aA hixk ?_
       (repeat(first|refine aA (by simp (disch:=first|omega|exact nnN _|assumption) only [BB,B2,↓reduceIte,Nat.reduceLeDiff,Nat.reduceAdd,CC]<;>rfl) ?_|apply aD|apply aE|with_reducible first|apply aG|apply aF|apply aK|apply aH|apply aJ|apply aI|apply aL|apply aC))
       refine aA hldk ?_
       (repeat(first|refine aA (by simp (disch:=first|omega|exact nnN _|assumption) only [BB,B2,↓reduceIte,Nat.reduceLeDiff,Nat.reduceAdd,CC]<;>rfl) ?_|apply aD|apply aE|with_reducible first|apply aG|apply aF|apply aK|apply aH|apply aJ|apply aI|apply aL|apply aC))
       refine aA hstr ?_
       (repeat(first|refine aA (by simp (disch:=first|omega|exact nnN _|assumption) only [BB,B2,↓reduceIte,Nat.reduceLeDiff,Nat.reduceAdd,CC,t2]<;>rfl) ?_|apply aD|apply aE|with_reducible first|apply aG|apply aF|apply aK|apply aH|apply aJ|apply aI|apply aL|apply aC))
       refine hgo _ _ ?_ ?_ ?_ ?_ ?_ rfl ?_ ?_ rfl ?_
       ·exact c2
       ·exact c5
       ·exact c6
       ·exact c9
       ·exact c12
       ·exact c58
       ·exact c59
       ·omega
     ·(repeat(first|refine aA (by simp (disch:=first|omega|exact nnN _|assumption) only [BB,B2,↓reduceIte,Nat.reduceLeDiff,Nat.reduceAdd,CC]<;>rfl) ?_|apply aD|apply aE|with_reducible first|apply aG|apply aF|apply aK|apply aH|apply aJ|apply aI|apply aL|apply aC))
      refine hx _ _ _ _ (fun e=>by cases e) (d4 (cO ?_))
      refine hj2 _ _ _ ?_ ?_ ?_ ?_ hs78
      ·exact c5
      ·exact c6
      ·exact c9
      ·exact c12
    refine hj1 _ _ e1 e2 e5 e6 ?_
    omega
end
end V
end Go.Proofs.YtcaccnneblghgaaGreat
set_option maxRecDepth 16000
namespace Go.Proofs.YtcaccnneblghgaaGreat
namespace V
open Go.ChangeShapes Go.WideShapes Go.ChangeAt Go.RowKit
theorem aCq (os:Os) (started:os.Started) (H:Type) (enc:TypeId × Value→H) :
  ReturnsInHanded {} Tryz.checked os 4 .any (Rows.scanKeepSpec.pre6 enc Tryz.prog Tryz.f4 Rows.scanKeepRow.domain false) (Rows.scanKeepSpec.post enc Tryz.prog Tryz.f4 false true false false):=by
 refine returnsInHanded_of_change_sized (C:=Tryz.checked) aQJ started (by kernel_rfl) (by kernel_rfl)
  (ChangeSpec.witness6 (enc:=enc) (C:=Tryz.checked) false ⟨#[],#[.agg #[.slice none 0 0,.slice none 0 0,.slice none 0 0,.slice none 0 0],.slice none 0 0],[]⟩ 8 (by kernel_rfl) (by kernel_rfl) (by kernel_rfl) (by kernel_rfl)) ?_
 intro W base args ds gs before hval hW _ _ _
 have hW':=hW
 obtain ⟨p,q,hA0,hV,rfl,hfz,hnd⟩:=hW
 have hA:DataW.TrodAll enc Tryz.prog W 0 (fun _=>true) true [dC,gD] args.toList ds p:=hA0
 obtain ⟨v0,v1,d0,d1,p0,p1,rfl,rfl,rfl,h0,h1⟩:=trodAll_two hA
 obtain ⟨rfl,rfl⟩:=trodVars_none hV
 obtain ⟨w0,t0,a0,hd0⟩:=aMr h0 (hval 0 dC v0 rfl rfl)
 obtain ⟨w1,l1,a1,hl1,hn1⟩:=aJU h1 (hval 1 gD v1 rfl rfl)
 have hsay:aPt Tryz.prog W 4 [.agg w0.toArray,w1]:=aBm Fr.e hd0 hl1 hn1 fun _ _=>rfl
 refine (aJf okZ okN okM (args:=#[v0,v1]) (.cons a0 (.cons a1 .nil)) hsay).mono fun e W' ⟨he,hb⟩=>?_
 subst he
 exact ⟨_,rfl,aM5 (tb:=aEc) aP1 (by kernel_rfl) (by kernel_rfl) (by kernel_rfl) rfl hW' hb rfl⟩
end V
theorem scanKeep_holds:Rows.ScanKeepSaid :=
 OpenClaim.holds_of_wide 4 Tryz.f4 rfl rfl rfl rfl rfl rfl rfl ⟨rfl,rfl,rfl,rfl,rfl⟩ rfl rfl rfl rfl rfl (by kernel_rfl) (by kernel_rfl) (by kernel_rfl)
  (of_decide_eq_true (by kernel_rfl)) (by unfold Func.isWrapper; rw [if_neg (of_decide_eq_false (by kernel_rfl))]; exact ⟨rfl,rfl⟩)
  (fun os started H enc _=>V.aCq os started H enc)
end Go.Proofs.YtcaccnneblghgaaGreat