/-
  Facts on the types of the translation: cells, info. No condition.
-/
import Derived.Test.YtaagjnlkinojcaaGreatProg
import Derived.Test.YtaagjnlkinojcaaGreatSxS
namespace Go.Proofs.YtaagjnlkinojcaaGreat
open Go.Sx Tryz
set_option maxRecDepth 100000
@[simp] theorem zxO:prog.cellsOf 0=1:=by kernel_rfl
@[simp] theorem zC5:prog.info? 0=some t0:=by kernel_rfl
@[simp] theorem zxP:prog.cellsOf 1=1:=by kernel_rfl
@[simp] theorem zrU:prog.info? 1=some t1:=by kernel_rfl
@[simp] theorem zDo:z01 prog 1:=z02 zrU rfl
@[simp] theorem zxQ:prog.cellsOf 2=1:=by kernel_rfl
@[simp] theorem zrV:prog.info? 2=some t2:=by kernel_rfl
@[simp] theorem zDp:z01 prog 2:=z02 zrV rfl
@[simp] theorem z3T:prog.cellsOf 3=1:=by kernel_rfl
@[simp] theorem z7z:prog.info? 3=some t3:=by kernel_rfl
@[simp] theorem zDq:z01 prog 3:=z02 z7z rfl
@[simp] theorem zk6:prog.cellsOf 4=1:=by kernel_rfl
@[simp] theorem zrW:prog.info? 4=some t4:=by kernel_rfl
@[simp] theorem zDr:z01 prog 4:=z02 zrW rfl
@[simp] theorem zdC:prog.cellsOf 5=1:=by kernel_rfl
@[simp] theorem zrX:prog.info? 5=some t5:=by kernel_rfl
@[simp] theorem z2R:z01 prog 5:=z02 zrX rfl
@[simp] theorem zxR:prog.cellsOf 6=1:=by kernel_rfl
@[simp] theorem zrY:prog.info? 6=some t6:=by kernel_rfl
@[simp] theorem zDs:z01 prog 6:=z02 zrY rfl
@[simp] theorem zxS:prog.cellsOf 7=4:=by kernel_rfl
@[simp] theorem zrZ:prog.info? 7=some t7:=by kernel_rfl
@[simp] theorem zDt:z01 prog 7:=z02 zrZ rfl
@[simp] theorem zxT:prog.cellsOf 8=4:=by kernel_rfl
@[simp] theorem zs0:prog.info? 8=some t8:=by kernel_rfl
@[simp] theorem zDu:z01 prog 8:=z02 zs0 rfl
@[simp] theorem zxU:prog.cellsOf 9=1:=by kernel_rfl
@[simp] theorem zs1:prog.info? 9=some t9:=by kernel_rfl
@[simp] theorem zDv:z01 prog 9:=z02 zs1 rfl
@[simp] theorem zw1:prog.cellsOf 10=1:=by kernel_rfl
@[simp] theorem zq9:prog.info? 10=some t10:=by kernel_rfl
@[simp] theorem zC6:z01 prog 10:=z02 zq9 rfl
@[simp] theorem zw2:prog.cellsOf 11=1:=by kernel_rfl
@[simp] theorem zqa:prog.info? 11=some t11:=by kernel_rfl
@[simp] theorem zC7:z01 prog 11:=z02 zqa rfl
@[simp] theorem zw3:prog.cellsOf 12=1:=by kernel_rfl
@[simp] theorem zqb:prog.info? 12=some t12:=by kernel_rfl
@[simp] theorem zC8:z01 prog 12:=z02 zqb rfl
@[simp] theorem zw4:prog.cellsOf 13=2:=by kernel_rfl
@[simp] theorem zqc:prog.info? 13=some t13:=by kernel_rfl
@[simp] theorem zC9:z01 prog 13:=z02 zqc rfl
@[simp] theorem zw5:prog.cellsOf 14=2:=by kernel_rfl
@[simp] theorem zqd:prog.info? 14=some t14:=by kernel_rfl
@[simp] theorem zCa:z01 prog 14:=z02 zqd rfl
@[simp] theorem zw6:prog.cellsOf 15=1:=by kernel_rfl
@[simp] theorem zqe:prog.info? 15=some t15:=by kernel_rfl
@[simp] theorem zCb:z01 prog 15:=z02 zqe rfl
@[simp] theorem zw7:prog.cellsOf 16=1:=by kernel_rfl
@[simp] theorem zqf:prog.info? 16=some t16:=by kernel_rfl
@[simp] theorem zCc:z01 prog 16:=z02 zqf rfl
@[simp] theorem zw8:prog.cellsOf 17=1:=by kernel_rfl
@[simp] theorem zqg:prog.info? 17=some t17:=by kernel_rfl
@[simp] theorem zCd:z01 prog 17:=z02 zqg rfl
@[simp] theorem zw9:prog.cellsOf 18=1:=by kernel_rfl
@[simp] theorem zqh:prog.info? 18=some t18:=by kernel_rfl
@[simp] theorem zCe:z01 prog 18:=z02 zqh rfl
@[simp] theorem zwa:prog.cellsOf 19=1:=by kernel_rfl
@[simp] theorem zqi:prog.info? 19=some t19:=by kernel_rfl
@[simp] theorem zCf:z01 prog 19:=z02 zqi rfl
@[simp] theorem zwb:prog.cellsOf 20=1:=by kernel_rfl
@[simp] theorem zqj:prog.info? 20=some t20:=by kernel_rfl
@[simp] theorem zCg:z01 prog 20:=z02 zqj rfl
@[simp] theorem zwc:prog.cellsOf 21=1:=by kernel_rfl
@[simp] theorem zqk:prog.info? 21=some t21:=by kernel_rfl
@[simp] theorem zCh:z01 prog 21:=z02 zqk rfl
@[simp] theorem zwd:prog.cellsOf 22=1:=by kernel_rfl
@[simp] theorem zql:prog.info? 22=some t22:=by kernel_rfl
@[simp] theorem zCi:z01 prog 22:=z02 zql rfl
@[simp] theorem zwe:prog.cellsOf 23=1:=by kernel_rfl
@[simp] theorem zqm:prog.info? 23=some t23:=by kernel_rfl
@[simp] theorem zCj:z01 prog 23:=z02 zqm rfl
@[simp] theorem zwf:prog.cellsOf 24=1:=by kernel_rfl
@[simp] theorem zqn:prog.info? 24=some t24:=by kernel_rfl
@[simp] theorem zCk:z01 prog 24:=z02 zqn rfl
@[simp] theorem zwg:prog.cellsOf 25=1:=by kernel_rfl
@[simp] theorem zqo:prog.info? 25=some t25:=by kernel_rfl
@[simp] theorem zCl:z01 prog 25:=z02 zqo rfl
@[simp] theorem zwh:prog.cellsOf 26=1:=by kernel_rfl
@[simp] theorem zqp:prog.info? 26=some t26:=by kernel_rfl
@[simp] theorem zCm:z01 prog 26:=z02 zqp rfl
@[simp] theorem zwi:prog.cellsOf 27=1:=by kernel_rfl
@[simp] theorem zqq:prog.info? 27=some t27:=by kernel_rfl
@[simp] theorem zCn:z01 prog 27:=z02 zqq rfl
@[simp] theorem z3l:prog.cellsOf 28=1:=by kernel_rfl
@[simp] theorem z4R:prog.info? 28=some t28:=by kernel_rfl
@[simp] theorem zbR:z01 prog 28:=z02 z4R rfl
@[simp] theorem zwj:prog.cellsOf 29=1:=by kernel_rfl
@[simp] theorem zqr:prog.info? 29=some t29:=by kernel_rfl
@[simp] theorem zCo:z01 prog 29:=z02 zqr rfl
@[simp] theorem zwk:prog.cellsOf 30=1:=by kernel_rfl
@[simp] theorem zqs:prog.info? 30=some t30:=by kernel_rfl
@[simp] theorem zCp:z01 prog 30:=z02 zqs rfl
@[simp] theorem zwl:prog.cellsOf 31=1:=by kernel_rfl
@[simp] theorem zqt:prog.info? 31=some t31:=by kernel_rfl
@[simp] theorem zCq:z01 prog 31:=z02 zqt rfl
@[simp] theorem zwm:prog.cellsOf 32=1:=by kernel_rfl
@[simp] theorem zqu:prog.info? 32=some t32:=by kernel_rfl
@[simp] theorem zCr:z01 prog 32:=z02 zqu rfl
@[simp] theorem zwn:prog.cellsOf 33=3:=by kernel_rfl
@[simp] theorem zqv:prog.info? 33=some t33:=by kernel_rfl
@[simp] theorem zCs:z01 prog 33:=z02 zqv rfl
@[simp] theorem zwo:prog.cellsOf 34=3:=by kernel_rfl
@[simp] theorem zqw:prog.info? 34=some t34:=by kernel_rfl
@[simp] theorem zCt:z01 prog 34:=z02 zqw rfl
@[simp] theorem zwp:prog.cellsOf 35=1:=by kernel_rfl
@[simp] theorem zqx:prog.info? 35=some t35:=by kernel_rfl
@[simp] theorem zCu:z01 prog 35:=z02 zqx rfl
@[simp] theorem zwq:prog.cellsOf 36=1:=by kernel_rfl
@[simp] theorem zyy:prog.info? 36=some t36:=by kernel_rfl
@[simp] theorem zwr:prog.cellsOf 37=1:=by kernel_rfl
@[simp] theorem zqy:prog.info? 37=some t37:=by kernel_rfl
@[simp] theorem zCv:z01 prog 37:=z02 zqy rfl
@[simp] theorem zws:prog.cellsOf 38=1:=by kernel_rfl
@[simp] theorem zqz:prog.info? 38=some t38:=by kernel_rfl
@[simp] theorem zCw:z01 prog 38:=z02 zqz rfl
@[simp] theorem zwt:prog.cellsOf 39=1:=by kernel_rfl
@[simp] theorem zqA:prog.info? 39=some t39:=by kernel_rfl
@[simp] theorem zCx:z01 prog 39:=z02 zqA rfl
@[simp] theorem zwu:prog.cellsOf 40=3:=by kernel_rfl
@[simp] theorem zqB:prog.info? 40=some t40:=by kernel_rfl
@[simp] theorem zCy:z01 prog 40:=z02 zqB rfl
@[simp] theorem zwv:prog.cellsOf 41=3:=by kernel_rfl
@[simp] theorem zqC:prog.info? 41=some t41:=by kernel_rfl
@[simp] theorem zCz:z01 prog 41:=z02 zqC rfl
@[simp] theorem zww:prog.cellsOf 42=5:=by kernel_rfl
@[simp] theorem zqD:prog.info? 42=some t42:=by kernel_rfl
@[simp] theorem zCA:z01 prog 42:=z02 zqD rfl
@[simp] theorem zwx:prog.cellsOf 43=5:=by kernel_rfl
@[simp] theorem zqE:prog.info? 43=some t43:=by kernel_rfl
@[simp] theorem zCB:z01 prog 43:=z02 zqE rfl
@[simp] theorem zwy:prog.cellsOf 44=1:=by kernel_rfl
@[simp] theorem zyz:prog.info? 44=some t44:=by kernel_rfl
@[simp] theorem zwz:prog.cellsOf 45=1:=by kernel_rfl
@[simp] theorem zqF:prog.info? 45=some t45:=by kernel_rfl
@[simp] theorem zCC:z01 prog 45:=z02 zqF rfl
@[simp] theorem zwA:prog.cellsOf 46=1:=by kernel_rfl
@[simp] theorem zqG:prog.info? 46=some t46:=by kernel_rfl
@[simp] theorem zCD:z01 prog 46:=z02 zqG rfl
@[simp] theorem zwB:prog.cellsOf 47=1:=by kernel_rfl
@[simp] theorem zyA:prog.info? 47=some t47:=by kernel_rfl
@[simp] theorem zwC:prog.cellsOf 48=1:=by kernel_rfl
@[simp] theorem zqH:prog.info? 48=some t48:=by kernel_rfl
@[simp] theorem zCE:z01 prog 48:=z02 zqH rfl
@[simp] theorem zwD:prog.cellsOf 49=1:=by kernel_rfl
@[simp] theorem zqI:prog.info? 49=some t49:=by kernel_rfl
@[simp] theorem zCF:z01 prog 49:=z02 zqI rfl
@[simp] theorem zwE:prog.cellsOf 50=1:=by kernel_rfl
@[simp] theorem zyB:prog.info? 50=some t50:=by kernel_rfl
@[simp] theorem zwF:prog.cellsOf 51=1:=by kernel_rfl
@[simp] theorem zqJ:prog.info? 51=some t51:=by kernel_rfl
@[simp] theorem zCG:z01 prog 51:=z02 zqJ rfl
@[simp] theorem zwG:prog.cellsOf 52=1:=by kernel_rfl
@[simp] theorem zqK:prog.info? 52=some t52:=by kernel_rfl
@[simp] theorem zCH:z01 prog 52:=z02 zqK rfl
@[simp] theorem zwH:prog.cellsOf 53=1:=by kernel_rfl
@[simp] theorem zqL:prog.info? 53=some t53:=by kernel_rfl
@[simp] theorem zCI:z01 prog 53:=z02 zqL rfl
@[simp] theorem zwI:prog.cellsOf 54=1:=by kernel_rfl
@[simp] theorem zqM:prog.info? 54=some t54:=by kernel_rfl
@[simp] theorem zCJ:z01 prog 54:=z02 zqM rfl
@[simp] theorem zwJ:prog.cellsOf 55=1:=by kernel_rfl
@[simp] theorem zqN:prog.info? 55=some t55:=by kernel_rfl
@[simp] theorem zCK:z01 prog 55:=z02 zqN rfl
@[simp] theorem zwK:prog.cellsOf 56=1:=by kernel_rfl
@[simp] theorem zqO:prog.info? 56=some t56:=by kernel_rfl
@[simp] theorem zCL:z01 prog 56:=z02 zqO rfl
@[simp] theorem zwL:prog.cellsOf 57=1:=by kernel_rfl
@[simp] theorem zqP:prog.info? 57=some t57:=by kernel_rfl
@[simp] theorem zCM:z01 prog 57:=z02 zqP rfl
@[simp] theorem zwM:prog.cellsOf 58=1:=by kernel_rfl
@[simp] theorem zqQ:prog.info? 58=some t58:=by kernel_rfl
@[simp] theorem zCN:z01 prog 58:=z02 zqQ rfl
@[simp] theorem zwN:prog.cellsOf 59=1:=by kernel_rfl
@[simp] theorem zqR:prog.info? 59=some t59:=by kernel_rfl
@[simp] theorem zCO:z01 prog 59:=z02 zqR rfl
@[simp] theorem zwO:prog.cellsOf 60=1:=by kernel_rfl
@[simp] theorem zqS:prog.info? 60=some t60:=by kernel_rfl
@[simp] theorem zCP:z01 prog 60:=z02 zqS rfl
@[simp] theorem zwP:prog.cellsOf 61=1:=by kernel_rfl
@[simp] theorem zqT:prog.info? 61=some t61:=by kernel_rfl
@[simp] theorem zCQ:z01 prog 61:=z02 zqT rfl
@[simp] theorem zwQ:prog.cellsOf 62=1:=by kernel_rfl
@[simp] theorem zyC:prog.info? 62=some t62:=by kernel_rfl
@[simp] theorem zwR:prog.cellsOf 63=1:=by kernel_rfl
@[simp] theorem zqU:prog.info? 63=some t63:=by kernel_rfl
@[simp] theorem zCR:z01 prog 63:=z02 zqU rfl
@[simp] theorem zwS:prog.cellsOf 64=1:=by kernel_rfl
@[simp] theorem zqV:prog.info? 64=some t64:=by kernel_rfl
@[simp] theorem zCS:z01 prog 64:=z02 zqV rfl
@[simp] theorem zwT:prog.cellsOf 65=1:=by kernel_rfl
@[simp] theorem zqW:prog.info? 65=some t65:=by kernel_rfl
@[simp] theorem zCT:z01 prog 65:=z02 zqW rfl
@[simp] theorem zwU:prog.cellsOf 66=2:=by kernel_rfl
@[simp] theorem zqX:prog.info? 66=some t66:=by kernel_rfl
@[simp] theorem zCU:z01 prog 66:=z02 zqX rfl
@[simp] theorem zwV:prog.cellsOf 67=2:=by kernel_rfl
@[simp] theorem zqY:prog.info? 67=some t67:=by kernel_rfl
@[simp] theorem zCV:z01 prog 67:=z02 zqY rfl
@[simp] theorem zwW:prog.cellsOf 68=1:=by kernel_rfl
@[simp] theorem zyD:prog.info? 68=some t68:=by kernel_rfl
@[simp] theorem zwX:prog.cellsOf 69=1:=by kernel_rfl
@[simp] theorem zqZ:prog.info? 69=some t69:=by kernel_rfl
@[simp] theorem zCW:z01 prog 69:=z02 zqZ rfl
@[simp] theorem zwY:prog.cellsOf 70=1:=by kernel_rfl
@[simp] theorem zr0:prog.info? 70=some t70:=by kernel_rfl
@[simp] theorem zCX:z01 prog 70:=z02 zr0 rfl
@[simp] theorem zwZ:prog.cellsOf 71=1:=by kernel_rfl
@[simp] theorem zr1:prog.info? 71=some t71:=by kernel_rfl
@[simp] theorem zCY:z01 prog 71:=z02 zr1 rfl
@[simp] theorem zx0:prog.cellsOf 72=1:=by kernel_rfl
@[simp] theorem zr2:prog.info? 72=some t72:=by kernel_rfl
@[simp] theorem zCZ:z01 prog 72:=z02 zr2 rfl
@[simp] theorem zx1:prog.cellsOf 73=1:=by kernel_rfl
@[simp] theorem zr3:prog.info? 73=some t73:=by kernel_rfl
@[simp] theorem zD0:z01 prog 73:=z02 zr3 rfl
@[simp] theorem zx2:prog.cellsOf 74=8:=by kernel_rfl
@[simp] theorem zr4:prog.info? 74=some t74:=by kernel_rfl
@[simp] theorem zD1:z01 prog 74:=z02 zr4 rfl
@[simp] theorem zx3:prog.cellsOf 75=8:=by kernel_rfl
@[simp] theorem zr5:prog.info? 75=some t75:=by kernel_rfl
@[simp] theorem zD2:z01 prog 75:=z02 zr5 rfl
@[simp] theorem zx4:prog.cellsOf 76=6:=by kernel_rfl
@[simp] theorem zr6:prog.info? 76=some t76:=by kernel_rfl
@[simp] theorem zD3:z01 prog 76:=z02 zr6 rfl
@[simp] theorem zx5:prog.cellsOf 77=6:=by kernel_rfl
@[simp] theorem zr7:prog.info? 77=some t77:=by kernel_rfl
@[simp] theorem zD4:z01 prog 77:=z02 zr7 rfl
@[simp] theorem zx6:prog.cellsOf 78=1:=by kernel_rfl
@[simp] theorem zr8:prog.info? 78=some t78:=by kernel_rfl
@[simp] theorem zD5:z01 prog 78:=z02 zr8 rfl
@[simp] theorem zx7:prog.cellsOf 79=1:=by kernel_rfl
@[simp] theorem zr9:prog.info? 79=some t79:=by kernel_rfl
@[simp] theorem zD6:z01 prog 79:=z02 zr9 rfl
@[simp] theorem zx8:prog.cellsOf 80=1:=by kernel_rfl
@[simp] theorem zyE:prog.info? 80=some t80:=by kernel_rfl
@[simp] theorem zx9:prog.cellsOf 81=1:=by kernel_rfl
@[simp] theorem zra:prog.info? 81=some t81:=by kernel_rfl
@[simp] theorem zD7:z01 prog 81:=z02 zra rfl
@[simp] theorem zxa:prog.cellsOf 82=1:=by kernel_rfl
@[simp] theorem zrb:prog.info? 82=some t82:=by kernel_rfl
@[simp] theorem zD8:z01 prog 82:=z02 zrb rfl
@[simp] theorem zxb:prog.cellsOf 83=1:=by kernel_rfl
@[simp] theorem zrc:prog.info? 83=some t83:=by kernel_rfl
@[simp] theorem zD9:z01 prog 83:=z02 zrc rfl
@[simp] theorem zxc:prog.cellsOf 84=1:=by kernel_rfl
@[simp] theorem zyF:prog.info? 84=some t84:=by kernel_rfl
@[simp] theorem zxd:prog.cellsOf 85=1:=by kernel_rfl
@[simp] theorem zrd:prog.info? 85=some t85:=by kernel_rfl
@[simp] theorem zDa:z01 prog 85:=z02 zrd rfl
@[simp] theorem zxe:prog.cellsOf 86=1:=by kernel_rfl
@[simp] theorem zre:prog.info? 86=some t86:=by kernel_rfl
@[simp] theorem zDb:z01 prog 86:=z02 zre rfl
@[simp] theorem zxf:prog.cellsOf 87=1:=by kernel_rfl
@[simp] theorem zrf:prog.info? 87=some t87:=by kernel_rfl
@[simp] theorem zDc:z01 prog 87:=z02 zrf rfl
@[simp] theorem zxg:prog.cellsOf 88=1:=by kernel_rfl
@[simp] theorem zrg:prog.info? 88=some t88:=by kernel_rfl
@[simp] theorem zDd:z01 prog 88:=z02 zrg rfl
@[simp] theorem zxh:prog.cellsOf 89=1:=by kernel_rfl
@[simp] theorem zyG:prog.info? 89=some t89:=by kernel_rfl
@[simp] theorem zxi:prog.cellsOf 90=1:=by kernel_rfl
@[simp] theorem zrh:prog.info? 90=some t90:=by kernel_rfl
@[simp] theorem zDe:z01 prog 90:=z02 zrh rfl
@[simp] theorem zxj:prog.cellsOf 91=1:=by kernel_rfl
@[simp] theorem zri:prog.info? 91=some t91:=by kernel_rfl
@[simp] theorem zDf:z01 prog 91:=z02 zri rfl
@[simp] theorem zxk:prog.cellsOf 92=1:=by kernel_rfl
@[simp] theorem zrj:prog.info? 92=some t92:=by kernel_rfl
@[simp] theorem zDg:z01 prog 92:=z02 zrj rfl
@[simp] theorem zxl:prog.cellsOf 93=1:=by kernel_rfl
@[simp] theorem zrk:prog.info? 93=some t93:=by kernel_rfl
@[simp] theorem zDh:z01 prog 93:=z02 zrk rfl
@[simp] theorem zxm:prog.cellsOf 94=1:=by kernel_rfl
@[simp] theorem zrl:prog.info? 94=some t94:=by kernel_rfl
@[simp] theorem zDi:z01 prog 94:=z02 zrl rfl
@[simp] theorem zxn:prog.cellsOf 95=1:=by kernel_rfl
@[simp] theorem zrm:prog.info? 95=some t95:=by kernel_rfl
@[simp] theorem zDj:z01 prog 95:=z02 zrm rfl
@[simp] theorem zxo:prog.cellsOf 96=1:=by kernel_rfl
@[simp] theorem zrn:prog.info? 96=some t96:=by kernel_rfl
@[simp] theorem zDk:z01 prog 96:=z02 zrn rfl
@[simp] theorem zxp:prog.cellsOf 97=1:=by kernel_rfl
@[simp] theorem zro:prog.info? 97=some t97:=by kernel_rfl
@[simp] theorem zDl:z01 prog 97:=z02 zro rfl
@[simp] theorem zxq:prog.cellsOf 98=1:=by kernel_rfl
@[simp] theorem zrp:prog.info? 98=some t98:=by kernel_rfl
@[simp] theorem zDm:z01 prog 98:=z02 zrp rfl
@[simp] theorem zxr:prog.cellsOf 99=1:=by kernel_rfl
@[simp] theorem zrq:prog.info? 99=some t99:=by kernel_rfl
@[simp] theorem zDn:z01 prog 99:=z02 zrq rfl
@[simp] theorem zs2:prog.cellsOf 100=3:=by kernel_rfl
@[simp] theorem zlr:prog.info? 100=some t100:=by kernel_rfl
@[simp] theorem zyH:z01 prog 100:=z02 zlr rfl
@[simp] theorem z1T:prog.cellsOf 101=3:=by kernel_rfl
@[simp] theorem z2F:prog.info? 101=some t101:=by kernel_rfl
@[simp] theorem z8g:z01 prog 101:=z02 z2F rfl
@[simp] theorem zs3:prog.cellsOf 102=1:=by kernel_rfl
@[simp] theorem zls:prog.info? 102=some t102:=by kernel_rfl
@[simp] theorem zyI:z01 prog 102:=z02 zls rfl
@[simp] theorem zs4:prog.cellsOf 103=1:=by kernel_rfl
@[simp] theorem zlt:prog.info? 103=some t103:=by kernel_rfl
@[simp] theorem zyJ:z01 prog 103:=z02 zlt rfl
@[simp] theorem zs5:prog.cellsOf 104=1:=by kernel_rfl
@[simp] theorem zlu:prog.info? 104=some t104:=by kernel_rfl
@[simp] theorem zyK:z01 prog 104:=z02 zlu rfl
@[simp] theorem zs6:prog.cellsOf 105=1:=by kernel_rfl
@[simp] theorem zlv:prog.info? 105=some t105:=by kernel_rfl
@[simp] theorem zyL:z01 prog 105:=z02 zlv rfl
@[simp] theorem zs7:prog.cellsOf 106=2:=by kernel_rfl
@[simp] theorem zlw:prog.info? 106=some t106:=by kernel_rfl
@[simp] theorem zyM:z01 prog 106:=z02 zlw rfl
@[simp] theorem zs8:prog.cellsOf 107=2:=by kernel_rfl
@[simp] theorem zlx:prog.info? 107=some t107:=by kernel_rfl
@[simp] theorem zyN:z01 prog 107:=z02 zlx rfl
@[simp] theorem zs9:prog.cellsOf 108=1:=by kernel_rfl
@[simp] theorem zly:prog.info? 108=some t108:=by kernel_rfl
@[simp] theorem zyO:z01 prog 108:=z02 zly rfl
@[simp] theorem zsa:prog.cellsOf 109=1:=by kernel_rfl
@[simp] theorem zlz:prog.info? 109=some t109:=by kernel_rfl
@[simp] theorem zyP:z01 prog 109:=z02 zlz rfl
@[simp] theorem zsb:prog.cellsOf 110=1:=by kernel_rfl
@[simp] theorem zlA:prog.info? 110=some t110:=by kernel_rfl
@[simp] theorem zyQ:z01 prog 110:=z02 zlA rfl
@[simp] theorem zsc:prog.cellsOf 111=1:=by kernel_rfl
@[simp] theorem zlB:prog.info? 111=some t111:=by kernel_rfl
@[simp] theorem zyR:z01 prog 111:=z02 zlB rfl
@[simp] theorem zsd:prog.cellsOf 112=1:=by kernel_rfl
@[simp] theorem zlC:prog.info? 112=some t112:=by kernel_rfl
@[simp] theorem zyS:z01 prog 112:=z02 zlC rfl
@[simp] theorem zse:prog.cellsOf 113=1:=by kernel_rfl
@[simp] theorem zlD:prog.info? 113=some t113:=by kernel_rfl
@[simp] theorem zyT:z01 prog 113:=z02 zlD rfl
@[simp] theorem zsf:prog.cellsOf 114=1:=by kernel_rfl
@[simp] theorem zlE:prog.info? 114=some t114:=by kernel_rfl
@[simp] theorem zyU:z01 prog 114:=z02 zlE rfl
@[simp] theorem zsg:prog.cellsOf 115=1:=by kernel_rfl
@[simp] theorem zlF:prog.info? 115=some t115:=by kernel_rfl
@[simp] theorem zyV:z01 prog 115:=z02 zlF rfl
@[simp] theorem zsh:prog.cellsOf 116=1:=by kernel_rfl
@[simp] theorem zlG:prog.info? 116=some t116:=by kernel_rfl
@[simp] theorem zyW:z01 prog 116:=z02 zlG rfl
@[simp] theorem zsi:prog.cellsOf 117=1:=by kernel_rfl
@[simp] theorem zxX:prog.info? 117=some t117:=by kernel_rfl
@[simp] theorem zsj:prog.cellsOf 118=1:=by kernel_rfl
@[simp] theorem zlH:prog.info? 118=some t118:=by kernel_rfl
@[simp] theorem zyX:z01 prog 118:=z02 zlH rfl
@[simp] theorem zsk:prog.cellsOf 119=1:=by kernel_rfl
@[simp] theorem zxY:prog.info? 119=some t119:=by kernel_rfl
@[simp] theorem zsl:prog.cellsOf 120=1:=by kernel_rfl
@[simp] theorem zlI:prog.info? 120=some t120:=by kernel_rfl
@[simp] theorem zyY:z01 prog 120:=z02 zlI rfl
@[simp] theorem zsm:prog.cellsOf 121=1:=by kernel_rfl
@[simp] theorem zxZ:prog.info? 121=some t121:=by kernel_rfl
@[simp] theorem zsn:prog.cellsOf 122=1:=by kernel_rfl
@[simp] theorem zlJ:prog.info? 122=some t122:=by kernel_rfl
@[simp] theorem zyZ:z01 prog 122:=z02 zlJ rfl
@[simp] theorem zso:prog.cellsOf 123=1:=by kernel_rfl
@[simp] theorem zy0:prog.info? 123=some t123:=by kernel_rfl
@[simp] theorem zsp:prog.cellsOf 124=1:=by kernel_rfl
@[simp] theorem zlK:prog.info? 124=some t124:=by kernel_rfl
@[simp] theorem zz0:z01 prog 124:=z02 zlK rfl
@[simp] theorem zsq:prog.cellsOf 125=1:=by kernel_rfl
@[simp] theorem zy1:prog.info? 125=some t125:=by kernel_rfl
@[simp] theorem zsr:prog.cellsOf 126=1:=by kernel_rfl
@[simp] theorem zlL:prog.info? 126=some t126:=by kernel_rfl
@[simp] theorem zz1:z01 prog 126:=z02 zlL rfl
@[simp] theorem zss:prog.cellsOf 127=1:=by kernel_rfl
@[simp] theorem zy2:prog.info? 127=some t127:=by kernel_rfl
@[simp] theorem zst:prog.cellsOf 128=1:=by kernel_rfl
@[simp] theorem zlM:prog.info? 128=some t128:=by kernel_rfl
@[simp] theorem zz2:z01 prog 128:=z02 zlM rfl
@[simp] theorem z1f:prog.cellsOf 129=3:=by kernel_rfl
@[simp] theorem z2G:prog.info? 129=some t129:=by kernel_rfl
@[simp] theorem z3U:z01 prog 129:=z02 z2G rfl
@[simp] theorem zsu:prog.cellsOf 130=1:=by kernel_rfl
@[simp] theorem zlN:prog.info? 130=some t130:=by kernel_rfl
@[simp] theorem zz3:z01 prog 130:=z02 zlN rfl
@[simp] theorem zsv:prog.cellsOf 131=1:=by kernel_rfl
@[simp] theorem zlO:prog.info? 131=some t131:=by kernel_rfl
@[simp] theorem zz4:z01 prog 131:=z02 zlO rfl
@[simp] theorem zsw:prog.cellsOf 132=1:=by kernel_rfl
@[simp] theorem zlP:prog.info? 132=some t132:=by kernel_rfl
@[simp] theorem zz5:z01 prog 132:=z02 zlP rfl
@[simp] theorem zsx:prog.cellsOf 133=1:=by kernel_rfl
@[simp] theorem zlQ:prog.info? 133=some t133:=by kernel_rfl
@[simp] theorem zz6:z01 prog 133:=z02 zlQ rfl
@[simp] theorem zsy:prog.cellsOf 134=1:=by kernel_rfl
@[simp] theorem zlR:prog.info? 134=some t134:=by kernel_rfl
@[simp] theorem zz7:z01 prog 134:=z02 zlR rfl
@[simp] theorem zsz:prog.cellsOf 135=1:=by kernel_rfl
@[simp] theorem zlS:prog.info? 135=some t135:=by kernel_rfl
@[simp] theorem zz8:z01 prog 135:=z02 zlS rfl
@[simp] theorem zsA:prog.cellsOf 136=2:=by kernel_rfl
@[simp] theorem zlT:prog.info? 136=some t136:=by kernel_rfl
@[simp] theorem zz9:z01 prog 136:=z02 zlT rfl
@[simp] theorem zsB:prog.cellsOf 137=2:=by kernel_rfl
@[simp] theorem zlU:prog.info? 137=some t137:=by kernel_rfl
@[simp] theorem zza:z01 prog 137:=z02 zlU rfl
@[simp] theorem zsC:prog.cellsOf 138=2:=by kernel_rfl
@[simp] theorem zlV:prog.info? 138=some t138:=by kernel_rfl
@[simp] theorem zzb:z01 prog 138:=z02 zlV rfl
@[simp] theorem zsD:prog.cellsOf 139=1:=by kernel_rfl
@[simp] theorem zy3:prog.info? 139=some t139:=by kernel_rfl
@[simp] theorem zsE:prog.cellsOf 140=1:=by kernel_rfl
@[simp] theorem zlW:prog.info? 140=some t140:=by kernel_rfl
@[simp] theorem zzc:z01 prog 140:=z02 zlW rfl
@[simp] theorem zsF:prog.cellsOf 141=3:=by kernel_rfl
@[simp] theorem zlX:prog.info? 141=some t141:=by kernel_rfl
@[simp] theorem zzd:z01 prog 141:=z02 zlX rfl
@[simp] theorem zsG:prog.cellsOf 142=3:=by kernel_rfl
@[simp] theorem zlY:prog.info? 142=some t142:=by kernel_rfl
@[simp] theorem zze:z01 prog 142:=z02 zlY rfl
@[simp] theorem zsH:prog.cellsOf 143=1:=by kernel_rfl
@[simp] theorem zlZ:prog.info? 143=some t143:=by kernel_rfl
@[simp] theorem zzf:z01 prog 143:=z02 zlZ rfl
@[simp] theorem zsI:prog.cellsOf 144=1:=by kernel_rfl
@[simp] theorem zm0:prog.info? 144=some t144:=by kernel_rfl
@[simp] theorem zzg:z01 prog 144:=z02 zm0 rfl
@[simp] theorem zsJ:prog.cellsOf 145=1:=by kernel_rfl
@[simp] theorem zm1:prog.info? 145=some t145:=by kernel_rfl
@[simp] theorem zzh:z01 prog 145:=z02 zm1 rfl
@[simp] theorem zsK:prog.cellsOf 146=1:=by kernel_rfl
@[simp] theorem zm2:prog.info? 146=some t146:=by kernel_rfl
@[simp] theorem zzi:z01 prog 146:=z02 zm2 rfl
@[simp] theorem zsL:prog.cellsOf 147=3:=by kernel_rfl
@[simp] theorem zm3:prog.info? 147=some t147:=by kernel_rfl
@[simp] theorem zzj:z01 prog 147:=z02 zm3 rfl
@[simp] theorem zsM:prog.cellsOf 148=3:=by kernel_rfl
@[simp] theorem zm4:prog.info? 148=some t148:=by kernel_rfl
@[simp] theorem zzk:z01 prog 148:=z02 zm4 rfl
@[simp] theorem zsN:prog.cellsOf 149=1:=by kernel_rfl
@[simp] theorem zm5:prog.info? 149=some t149:=by kernel_rfl
@[simp] theorem zzl:z01 prog 149:=z02 zm5 rfl
@[simp] theorem zsO:prog.cellsOf 150=1:=by kernel_rfl
@[simp] theorem zm6:prog.info? 150=some t150:=by kernel_rfl
@[simp] theorem zzm:z01 prog 150:=z02 zm6 rfl
@[simp] theorem zsP:prog.cellsOf 151=1:=by kernel_rfl
@[simp] theorem zm7:prog.info? 151=some t151:=by kernel_rfl
@[simp] theorem zzn:z01 prog 151:=z02 zm7 rfl
@[simp] theorem zsQ:prog.cellsOf 152=1:=by kernel_rfl
@[simp] theorem zm8:prog.info? 152=some t152:=by kernel_rfl
@[simp] theorem zzo:z01 prog 152:=z02 zm8 rfl
@[simp] theorem zsR:prog.cellsOf 153=1:=by kernel_rfl
@[simp] theorem zm9:prog.info? 153=some t153:=by kernel_rfl
@[simp] theorem zzp:z01 prog 153:=z02 zm9 rfl
@[simp] theorem zsS:prog.cellsOf 154=1:=by kernel_rfl
@[simp] theorem zma:prog.info? 154=some t154:=by kernel_rfl
@[simp] theorem zzq:z01 prog 154:=z02 zma rfl
@[simp] theorem zsT:prog.cellsOf 155=1:=by kernel_rfl
@[simp] theorem zmb:prog.info? 155=some t155:=by kernel_rfl
@[simp] theorem zzr:z01 prog 155:=z02 zmb rfl
@[simp] theorem zsU:prog.cellsOf 156=1:=by kernel_rfl
@[simp] theorem zmc:prog.info? 156=some t156:=by kernel_rfl
@[simp] theorem zzs:z01 prog 156:=z02 zmc rfl
@[simp] theorem zsV:prog.cellsOf 157=1:=by kernel_rfl
@[simp] theorem zmd:prog.info? 157=some t157:=by kernel_rfl
@[simp] theorem zzt:z01 prog 157:=z02 zmd rfl
@[simp] theorem zsW:prog.cellsOf 158=1:=by kernel_rfl
@[simp] theorem zme:prog.info? 158=some t158:=by kernel_rfl
@[simp] theorem zzu:z01 prog 158:=z02 zme rfl
@[simp] theorem zsX:prog.cellsOf 159=1:=by kernel_rfl
@[simp] theorem zmf:prog.info? 159=some t159:=by kernel_rfl
@[simp] theorem zzv:z01 prog 159:=z02 zmf rfl
@[simp] theorem zsY:prog.cellsOf 160=1:=by kernel_rfl
@[simp] theorem zmg:prog.info? 160=some t160:=by kernel_rfl
@[simp] theorem zzw:z01 prog 160:=z02 zmg rfl
@[simp] theorem zsZ:prog.cellsOf 161=1:=by kernel_rfl
@[simp] theorem zmh:prog.info? 161=some t161:=by kernel_rfl
@[simp] theorem zzx:z01 prog 161:=z02 zmh rfl
@[simp] theorem zt0:prog.cellsOf 162=3:=by kernel_rfl
@[simp] theorem zmi:prog.info? 162=some t162:=by kernel_rfl
@[simp] theorem zzy:z01 prog 162:=z02 zmi rfl
@[simp] theorem zt1:prog.cellsOf 163=1:=by kernel_rfl
@[simp] theorem zmj:prog.info? 163=some t163:=by kernel_rfl
@[simp] theorem zzz:z01 prog 163:=z02 zmj rfl
@[simp] theorem zt2:prog.cellsOf 164=1:=by kernel_rfl
@[simp] theorem zmk:prog.info? 164=some t164:=by kernel_rfl
@[simp] theorem zzA:z01 prog 164:=z02 zmk rfl
@[simp] theorem zt3:prog.cellsOf 165=1:=by kernel_rfl
@[simp] theorem zml:prog.info? 165=some t165:=by kernel_rfl
@[simp] theorem zzB:z01 prog 165:=z02 zml rfl
@[simp] theorem zt4:prog.cellsOf 166=1:=by kernel_rfl
@[simp] theorem zmm:prog.info? 166=some t166:=by kernel_rfl
@[simp] theorem zzC:z01 prog 166:=z02 zmm rfl
@[simp] theorem zt5:prog.cellsOf 167=1:=by kernel_rfl
@[simp] theorem zmn:prog.info? 167=some t167:=by kernel_rfl
@[simp] theorem zzD:z01 prog 167:=z02 zmn rfl
@[simp] theorem zt6:prog.cellsOf 168=1:=by kernel_rfl
@[simp] theorem zmo:prog.info? 168=some t168:=by kernel_rfl
@[simp] theorem zzE:z01 prog 168:=z02 zmo rfl
@[simp] theorem zt7:prog.cellsOf 169=1:=by kernel_rfl
@[simp] theorem zmp:prog.info? 169=some t169:=by kernel_rfl
@[simp] theorem zzF:z01 prog 169:=z02 zmp rfl
@[simp] theorem zt8:prog.cellsOf 170=1:=by kernel_rfl
@[simp] theorem zmq:prog.info? 170=some t170:=by kernel_rfl
@[simp] theorem zzG:z01 prog 170:=z02 zmq rfl
@[simp] theorem zt9:prog.cellsOf 171=1:=by kernel_rfl
@[simp] theorem zmr:prog.info? 171=some t171:=by kernel_rfl
@[simp] theorem zzH:z01 prog 171:=z02 zmr rfl
@[simp] theorem zta:prog.cellsOf 172=1:=by kernel_rfl
@[simp] theorem zy4:prog.info? 172=some t172:=by kernel_rfl
@[simp] theorem ztb:prog.cellsOf 173=1:=by kernel_rfl
@[simp] theorem zms:prog.info? 173=some t173:=by kernel_rfl
@[simp] theorem zzI:z01 prog 173:=z02 zms rfl
@[simp] theorem ztc:prog.cellsOf 174=1:=by kernel_rfl
@[simp] theorem zmt:prog.info? 174=some t174:=by kernel_rfl
@[simp] theorem zzJ:z01 prog 174:=z02 zmt rfl
@[simp] theorem ztd:prog.cellsOf 175=1:=by kernel_rfl
@[simp] theorem zmu:prog.info? 175=some t175:=by kernel_rfl
@[simp] theorem zzK:z01 prog 175:=z02 zmu rfl
@[simp] theorem zte:prog.cellsOf 176=1:=by kernel_rfl
@[simp] theorem zmv:prog.info? 176=some t176:=by kernel_rfl
@[simp] theorem zzL:z01 prog 176:=z02 zmv rfl
@[simp] theorem ztf:prog.cellsOf 177=1:=by kernel_rfl
@[simp] theorem zmw:prog.info? 177=some t177:=by kernel_rfl
@[simp] theorem zzM:z01 prog 177:=z02 zmw rfl
@[simp] theorem ztg:prog.cellsOf 178=1:=by kernel_rfl
@[simp] theorem zmx:prog.info? 178=some t178:=by kernel_rfl
@[simp] theorem zzN:z01 prog 178:=z02 zmx rfl
@[simp] theorem zth:prog.cellsOf 179=1:=by kernel_rfl
@[simp] theorem zmy:prog.info? 179=some t179:=by kernel_rfl
@[simp] theorem zzO:z01 prog 179:=z02 zmy rfl
@[simp] theorem zti:prog.cellsOf 180=1:=by kernel_rfl
@[simp] theorem zmz:prog.info? 180=some t180:=by kernel_rfl
@[simp] theorem zzP:z01 prog 180:=z02 zmz rfl
@[simp] theorem ztj:prog.cellsOf 181=1:=by kernel_rfl
@[simp] theorem zmA:prog.info? 181=some t181:=by kernel_rfl
@[simp] theorem zzQ:z01 prog 181:=z02 zmA rfl
@[simp] theorem ztk:prog.cellsOf 182=1:=by kernel_rfl
@[simp] theorem zmB:prog.info? 182=some t182:=by kernel_rfl
@[simp] theorem zzR:z01 prog 182:=z02 zmB rfl
@[simp] theorem ztl:prog.cellsOf 183=2:=by kernel_rfl
@[simp] theorem zmC:prog.info? 183=some t183:=by kernel_rfl
@[simp] theorem zzS:z01 prog 183:=z02 zmC rfl
@[simp] theorem ztm:prog.cellsOf 184=2:=by kernel_rfl
@[simp] theorem zmD:prog.info? 184=some t184:=by kernel_rfl
@[simp] theorem zzT:z01 prog 184:=z02 zmD rfl
@[simp] theorem ztn:prog.cellsOf 185=1:=by kernel_rfl
@[simp] theorem zy5:prog.info? 185=some t185:=by kernel_rfl
@[simp] theorem zto:prog.cellsOf 186=1:=by kernel_rfl
@[simp] theorem zmE:prog.info? 186=some t186:=by kernel_rfl
@[simp] theorem zzU:z01 prog 186:=z02 zmE rfl
@[simp] theorem ztp:prog.cellsOf 187=1:=by kernel_rfl
@[simp] theorem zy6:prog.info? 187=some t187:=by kernel_rfl
@[simp] theorem ztq:prog.cellsOf 188=1:=by kernel_rfl
@[simp] theorem zmF:prog.info? 188=some t188:=by kernel_rfl
@[simp] theorem zzV:z01 prog 188:=z02 zmF rfl
@[simp] theorem ztr:prog.cellsOf 189=1:=by kernel_rfl
@[simp] theorem zmG:prog.info? 189=some t189:=by kernel_rfl
@[simp] theorem zzW:z01 prog 189:=z02 zmG rfl
@[simp] theorem zts:prog.cellsOf 190=1:=by kernel_rfl
@[simp] theorem zmH:prog.info? 190=some t190:=by kernel_rfl
@[simp] theorem zzX:z01 prog 190:=z02 zmH rfl
@[simp] theorem ztt:prog.cellsOf 191=1:=by kernel_rfl
@[simp] theorem zmI:prog.info? 191=some t191:=by kernel_rfl
@[simp] theorem zzY:z01 prog 191:=z02 zmI rfl
@[simp] theorem ztu:prog.cellsOf 192=1:=by kernel_rfl
@[simp] theorem zy7:prog.info? 192=some t192:=by kernel_rfl
@[simp] theorem ztv:prog.cellsOf 193=1:=by kernel_rfl
@[simp] theorem zmJ:prog.info? 193=some t193:=by kernel_rfl
@[simp] theorem zzZ:z01 prog 193:=z02 zmJ rfl
@[simp] theorem ztw:prog.cellsOf 194=1:=by kernel_rfl
@[simp] theorem zmK:prog.info? 194=some t194:=by kernel_rfl
@[simp] theorem zA0:z01 prog 194:=z02 zmK rfl
@[simp] theorem ztx:prog.cellsOf 195=1:=by kernel_rfl
@[simp] theorem zy8:prog.info? 195=some t195:=by kernel_rfl
@[simp] theorem zty:prog.cellsOf 196=1:=by kernel_rfl
@[simp] theorem zmL:prog.info? 196=some t196:=by kernel_rfl
@[simp] theorem zA1:z01 prog 196:=z02 zmL rfl
@[simp] theorem ztz:prog.cellsOf 197=2:=by kernel_rfl
@[simp] theorem zmM:prog.info? 197=some t197:=by kernel_rfl
@[simp] theorem zA2:z01 prog 197:=z02 zmM rfl
@[simp] theorem ztA:prog.cellsOf 198=2:=by kernel_rfl
@[simp] theorem zmN:prog.info? 198=some t198:=by kernel_rfl
@[simp] theorem zA3:z01 prog 198:=z02 zmN rfl
@[simp] theorem ztB:prog.cellsOf 199=1:=by kernel_rfl
@[simp] theorem zy9:prog.info? 199=some t199:=by kernel_rfl
@[simp] theorem ztC:prog.cellsOf 200=1:=by kernel_rfl
@[simp] theorem zmO:prog.info? 200=some t200:=by kernel_rfl
@[simp] theorem zA4:z01 prog 200:=z02 zmO rfl
@[simp] theorem ztD:prog.cellsOf 201=1:=by kernel_rfl
@[simp] theorem zmP:prog.info? 201=some t201:=by kernel_rfl
@[simp] theorem zA5:z01 prog 201:=z02 zmP rfl
@[simp] theorem ztE:prog.cellsOf 202=1:=by kernel_rfl
@[simp] theorem zmQ:prog.info? 202=some t202:=by kernel_rfl
@[simp] theorem zA6:z01 prog 202:=z02 zmQ rfl
@[simp] theorem ztF:prog.cellsOf 203=1:=by kernel_rfl
@[simp] theorem zmR:prog.info? 203=some t203:=by kernel_rfl
@[simp] theorem zA7:z01 prog 203:=z02 zmR rfl
@[simp] theorem ztG:prog.cellsOf 204=1:=by kernel_rfl
@[simp] theorem zya:prog.info? 204=some t204:=by kernel_rfl
@[simp] theorem ztH:prog.cellsOf 205=1:=by kernel_rfl
@[simp] theorem zmS:prog.info? 205=some t205:=by kernel_rfl
@[simp] theorem zA8:z01 prog 205:=z02 zmS rfl
@[simp] theorem ztI:prog.cellsOf 206=1:=by kernel_rfl
@[simp] theorem zyb:prog.info? 206=some t206:=by kernel_rfl
@[simp] theorem ztJ:prog.cellsOf 207=1:=by kernel_rfl
@[simp] theorem zmT:prog.info? 207=some t207:=by kernel_rfl
@[simp] theorem zA9:z01 prog 207:=z02 zmT rfl
@[simp] theorem ztK:prog.cellsOf 208=2:=by kernel_rfl
@[simp] theorem zmU:prog.info? 208=some t208:=by kernel_rfl
@[simp] theorem zAa:z01 prog 208:=z02 zmU rfl
@[simp] theorem ztL:prog.cellsOf 209=1:=by kernel_rfl
@[simp] theorem zyc:prog.info? 209=some t209:=by kernel_rfl
@[simp] theorem ztM:prog.cellsOf 210=1:=by kernel_rfl
@[simp] theorem zmV:prog.info? 210=some t210:=by kernel_rfl
@[simp] theorem zAb:z01 prog 210:=z02 zmV rfl
@[simp] theorem ztN:prog.cellsOf 211=1:=by kernel_rfl
@[simp] theorem zyd:prog.info? 211=some t211:=by kernel_rfl
@[simp] theorem ztO:prog.cellsOf 212=1:=by kernel_rfl
@[simp] theorem zmW:prog.info? 212=some t212:=by kernel_rfl
@[simp] theorem zAc:z01 prog 212:=z02 zmW rfl
@[simp] theorem ztP:prog.cellsOf 213=1:=by kernel_rfl
@[simp] theorem zye:prog.info? 213=some t213:=by kernel_rfl
@[simp] theorem ztQ:prog.cellsOf 214=1:=by kernel_rfl
@[simp] theorem zmX:prog.info? 214=some t214:=by kernel_rfl
@[simp] theorem zAd:z01 prog 214:=z02 zmX rfl
@[simp] theorem ztR:prog.cellsOf 215=1:=by kernel_rfl
@[simp] theorem zmY:prog.info? 215=some t215:=by kernel_rfl
@[simp] theorem zAe:z01 prog 215:=z02 zmY rfl
@[simp] theorem ztS:prog.cellsOf 216=4:=by kernel_rfl
@[simp] theorem zmZ:prog.info? 216=some t216:=by kernel_rfl
@[simp] theorem zAf:z01 prog 216:=z02 zmZ rfl
@[simp] theorem z2k:prog.cellsOf 217=4:=by kernel_rfl
@[simp] theorem z3g:prog.info? 217=some t217:=by kernel_rfl
@[simp] theorem z49:z01 prog 217:=z02 z3g rfl
@[simp] theorem ztT:prog.cellsOf 218=1:=by kernel_rfl
@[simp] theorem zyf:prog.info? 218=some t218:=by kernel_rfl
@[simp] theorem ztU:prog.cellsOf 219=1:=by kernel_rfl
@[simp] theorem zn0:prog.info? 219=some t219:=by kernel_rfl
@[simp] theorem zAg:z01 prog 219:=z02 zn0 rfl
@[simp] theorem ztV:prog.cellsOf 220=1:=by kernel_rfl
@[simp] theorem zn1:prog.info? 220=some t220:=by kernel_rfl
@[simp] theorem zAh:z01 prog 220:=z02 zn1 rfl
@[simp] theorem ztW:prog.cellsOf 221=1:=by kernel_rfl
@[simp] theorem zn2:prog.info? 221=some t221:=by kernel_rfl
@[simp] theorem zAi:z01 prog 221:=z02 zn2 rfl
@[simp] theorem ztX:prog.cellsOf 222=1:=by kernel_rfl
@[simp] theorem zn3:prog.info? 222=some t222:=by kernel_rfl
@[simp] theorem zAj:z01 prog 222:=z02 zn3 rfl
@[simp] theorem ztY:prog.cellsOf 223=1:=by kernel_rfl
@[simp] theorem zn4:prog.info? 223=some t223:=by kernel_rfl
@[simp] theorem zAk:z01 prog 223:=z02 zn4 rfl
@[simp] theorem ztZ:prog.cellsOf 224=1:=by kernel_rfl
@[simp] theorem zn5:prog.info? 224=some t224:=by kernel_rfl
@[simp] theorem zAl:z01 prog 224:=z02 zn5 rfl
@[simp] theorem zu0:prog.cellsOf 225=1:=by kernel_rfl
@[simp] theorem zn6:prog.info? 225=some t225:=by kernel_rfl
@[simp] theorem zAm:z01 prog 225:=z02 zn6 rfl
@[simp] theorem zu1:prog.cellsOf 226=1:=by kernel_rfl
@[simp] theorem zn7:prog.info? 226=some t226:=by kernel_rfl
@[simp] theorem zAn:z01 prog 226:=z02 zn7 rfl
@[simp] theorem zu2:prog.cellsOf 227=1:=by kernel_rfl
@[simp] theorem zn8:prog.info? 227=some t227:=by kernel_rfl
@[simp] theorem zAo:z01 prog 227:=z02 zn8 rfl
@[simp] theorem zu3:prog.cellsOf 228=1:=by kernel_rfl
@[simp] theorem zn9:prog.info? 228=some t228:=by kernel_rfl
@[simp] theorem zAp:z01 prog 228:=z02 zn9 rfl
@[simp] theorem zu4:prog.cellsOf 229=1:=by kernel_rfl
@[simp] theorem zna:prog.info? 229=some t229:=by kernel_rfl
@[simp] theorem zAq:z01 prog 229:=z02 zna rfl
@[simp] theorem zu5:prog.cellsOf 230=5:=by kernel_rfl
@[simp] theorem znb:prog.info? 230=some t230:=by kernel_rfl
@[simp] theorem zAr:z01 prog 230:=z02 znb rfl
@[simp] theorem zu6:prog.cellsOf 231=5:=by kernel_rfl
@[simp] theorem znc:prog.info? 231=some t231:=by kernel_rfl
@[simp] theorem zAs:z01 prog 231:=z02 znc rfl
@[simp] theorem zu7:prog.cellsOf 232=1:=by kernel_rfl
@[simp] theorem znd:prog.info? 232=some t232:=by kernel_rfl
@[simp] theorem zAt:z01 prog 232:=z02 znd rfl
@[simp] theorem zu8:prog.cellsOf 233=7:=by kernel_rfl
@[simp] theorem zne:prog.info? 233=some t233:=by kernel_rfl
@[simp] theorem zAu:z01 prog 233:=z02 zne rfl
@[simp] theorem zu9:prog.cellsOf 234=7:=by kernel_rfl
@[simp] theorem znf:prog.info? 234=some t234:=by kernel_rfl
@[simp] theorem zAv:z01 prog 234:=z02 znf rfl
@[simp] theorem zua:prog.cellsOf 235=1:=by kernel_rfl
@[simp] theorem zng:prog.info? 235=some t235:=by kernel_rfl
@[simp] theorem zAw:z01 prog 235:=z02 zng rfl
@[simp] theorem zub:prog.cellsOf 236=1:=by kernel_rfl
@[simp] theorem znh:prog.info? 236=some t236:=by kernel_rfl
@[simp] theorem zAx:z01 prog 236:=z02 znh rfl
@[simp] theorem zuc:prog.cellsOf 237=1:=by kernel_rfl
@[simp] theorem zni:prog.info? 237=some t237:=by kernel_rfl
@[simp] theorem zAy:z01 prog 237:=z02 zni rfl
@[simp] theorem zud:prog.cellsOf 238=1:=by kernel_rfl
@[simp] theorem znj:prog.info? 238=some t238:=by kernel_rfl
@[simp] theorem zAz:z01 prog 238:=z02 znj rfl
@[simp] theorem zue:prog.cellsOf 239=1:=by kernel_rfl
@[simp] theorem znk:prog.info? 239=some t239:=by kernel_rfl
@[simp] theorem zAA:z01 prog 239:=z02 znk rfl
@[simp] theorem zuf:prog.cellsOf 240=1:=by kernel_rfl
@[simp] theorem znl:prog.info? 240=some t240:=by kernel_rfl
@[simp] theorem zAB:z01 prog 240:=z02 znl rfl
@[simp] theorem zug:prog.cellsOf 241=1:=by kernel_rfl
@[simp] theorem znm:prog.info? 241=some t241:=by kernel_rfl
@[simp] theorem zAC:z01 prog 241:=z02 znm rfl
@[simp] theorem zuh:prog.cellsOf 242=1:=by kernel_rfl
@[simp] theorem zyg:prog.info? 242=some t242:=by kernel_rfl
@[simp] theorem zui:prog.cellsOf 243=1:=by kernel_rfl
@[simp] theorem znn:prog.info? 243=some t243:=by kernel_rfl
@[simp] theorem zAD:z01 prog 243:=z02 znn rfl
@[simp] theorem zuj:prog.cellsOf 244=1:=by kernel_rfl
@[simp] theorem zno:prog.info? 244=some t244:=by kernel_rfl
@[simp] theorem zAE:z01 prog 244:=z02 zno rfl
@[simp] theorem zuk:prog.cellsOf 245=1:=by kernel_rfl
@[simp] theorem znp:prog.info? 245=some t245:=by kernel_rfl
@[simp] theorem zAF:z01 prog 245:=z02 znp rfl
@[simp] theorem zul:prog.cellsOf 246=1:=by kernel_rfl
@[simp] theorem znq:prog.info? 246=some t246:=by kernel_rfl
@[simp] theorem zAG:z01 prog 246:=z02 znq rfl
@[simp] theorem zum:prog.cellsOf 247=1:=by kernel_rfl
@[simp] theorem znr:prog.info? 247=some t247:=by kernel_rfl
@[simp] theorem zAH:z01 prog 247:=z02 znr rfl
@[simp] theorem zun:prog.cellsOf 248=1:=by kernel_rfl
@[simp] theorem zns:prog.info? 248=some t248:=by kernel_rfl
@[simp] theorem zAI:z01 prog 248:=z02 zns rfl
@[simp] theorem zuo:prog.cellsOf 249=1:=by kernel_rfl
@[simp] theorem znt:prog.info? 249=some t249:=by kernel_rfl
@[simp] theorem zAJ:z01 prog 249:=z02 znt rfl
@[simp] theorem zup:prog.cellsOf 250=1:=by kernel_rfl
@[simp] theorem znu:prog.info? 250=some t250:=by kernel_rfl
@[simp] theorem zAK:z01 prog 250:=z02 znu rfl
@[simp] theorem zuq:prog.cellsOf 251=1:=by kernel_rfl
@[simp] theorem znv:prog.info? 251=some t251:=by kernel_rfl
@[simp] theorem zAL:z01 prog 251:=z02 znv rfl
@[simp] theorem zur:prog.cellsOf 252=1:=by kernel_rfl
@[simp] theorem znw:prog.info? 252=some t252:=by kernel_rfl
@[simp] theorem zAM:z01 prog 252:=z02 znw rfl
@[simp] theorem zus:prog.cellsOf 253=1:=by kernel_rfl
@[simp] theorem znx:prog.info? 253=some t253:=by kernel_rfl
@[simp] theorem zAN:z01 prog 253:=z02 znx rfl
@[simp] theorem zut:prog.cellsOf 254=1:=by kernel_rfl
@[simp] theorem zny:prog.info? 254=some t254:=by kernel_rfl
@[simp] theorem zAO:z01 prog 254:=z02 zny rfl
@[simp] theorem zuu:prog.cellsOf 255=1:=by kernel_rfl
@[simp] theorem znz:prog.info? 255=some t255:=by kernel_rfl
@[simp] theorem zAP:z01 prog 255:=z02 znz rfl
@[simp] theorem zuv:prog.cellsOf 256=1:=by kernel_rfl
@[simp] theorem znA:prog.info? 256=some t256:=by kernel_rfl
@[simp] theorem zAQ:z01 prog 256:=z02 znA rfl
@[simp] theorem zuw:prog.cellsOf 257=1:=by kernel_rfl
@[simp] theorem znB:prog.info? 257=some t257:=by kernel_rfl
@[simp] theorem zAR:z01 prog 257:=z02 znB rfl
@[simp] theorem zux:prog.cellsOf 258=1:=by kernel_rfl
@[simp] theorem zyh:prog.info? 258=some t258:=by kernel_rfl
@[simp] theorem zuy:prog.cellsOf 259=1:=by kernel_rfl
@[simp] theorem znC:prog.info? 259=some t259:=by kernel_rfl
@[simp] theorem zAS:z01 prog 259:=z02 znC rfl
@[simp] theorem zuz:prog.cellsOf 260=1:=by kernel_rfl
@[simp] theorem zyi:prog.info? 260=some t260:=by kernel_rfl
@[simp] theorem zuA:prog.cellsOf 261=1:=by kernel_rfl
@[simp] theorem znD:prog.info? 261=some t261:=by kernel_rfl
@[simp] theorem zAT:z01 prog 261:=z02 znD rfl
@[simp] theorem zuB:prog.cellsOf 262=1:=by kernel_rfl
@[simp] theorem zyj:prog.info? 262=some t262:=by kernel_rfl
@[simp] theorem zuC:prog.cellsOf 263=1:=by kernel_rfl
@[simp] theorem znE:prog.info? 263=some t263:=by kernel_rfl
@[simp] theorem zAU:z01 prog 263:=z02 znE rfl
@[simp] theorem zuD:prog.cellsOf 264=1:=by kernel_rfl
@[simp] theorem znF:prog.info? 264=some t264:=by kernel_rfl
@[simp] theorem zAV:z01 prog 264:=z02 znF rfl
@[simp] theorem zuE:prog.cellsOf 265=1:=by kernel_rfl
@[simp] theorem znG:prog.info? 265=some t265:=by kernel_rfl
@[simp] theorem zAW:z01 prog 265:=z02 znG rfl
@[simp] theorem zuF:prog.cellsOf 266=1:=by kernel_rfl
@[simp] theorem znH:prog.info? 266=some t266:=by kernel_rfl
@[simp] theorem zAX:z01 prog 266:=z02 znH rfl
@[simp] theorem zuG:prog.cellsOf 267=1:=by kernel_rfl
@[simp] theorem znI:prog.info? 267=some t267:=by kernel_rfl
@[simp] theorem zAY:z01 prog 267:=z02 znI rfl
@[simp] theorem zuH:prog.cellsOf 268=1:=by kernel_rfl
@[simp] theorem zyk:prog.info? 268=some t268:=by kernel_rfl
@[simp] theorem zuI:prog.cellsOf 269=1:=by kernel_rfl
@[simp] theorem znJ:prog.info? 269=some t269:=by kernel_rfl
@[simp] theorem zAZ:z01 prog 269:=z02 znJ rfl
@[simp] theorem zuJ:prog.cellsOf 270=1:=by kernel_rfl
@[simp] theorem znK:prog.info? 270=some t270:=by kernel_rfl
@[simp] theorem zB0:z01 prog 270:=z02 znK rfl
@[simp] theorem zuK:prog.cellsOf 271=1:=by kernel_rfl
@[simp] theorem zyl:prog.info? 271=some t271:=by kernel_rfl
@[simp] theorem zuL:prog.cellsOf 272=1:=by kernel_rfl
@[simp] theorem znL:prog.info? 272=some t272:=by kernel_rfl
@[simp] theorem zB1:z01 prog 272:=z02 znL rfl
@[simp] theorem zuM:prog.cellsOf 273=1:=by kernel_rfl
@[simp] theorem zym:prog.info? 273=some t273:=by kernel_rfl
@[simp] theorem zuN:prog.cellsOf 274=1:=by kernel_rfl
@[simp] theorem znM:prog.info? 274=some t274:=by kernel_rfl
@[simp] theorem zB2:z01 prog 274:=z02 znM rfl
@[simp] theorem zuO:prog.cellsOf 275=1:=by kernel_rfl
@[simp] theorem znN:prog.info? 275=some t275:=by kernel_rfl
@[simp] theorem zB3:z01 prog 275:=z02 znN rfl
@[simp] theorem zuP:prog.cellsOf 276=1:=by kernel_rfl
@[simp] theorem znO:prog.info? 276=some t276:=by kernel_rfl
@[simp] theorem zB4:z01 prog 276:=z02 znO rfl
@[simp] theorem zuQ:prog.cellsOf 277=1:=by kernel_rfl
@[simp] theorem zyn:prog.info? 277=some t277:=by kernel_rfl
@[simp] theorem zuR:prog.cellsOf 278=1:=by kernel_rfl
@[simp] theorem znP:prog.info? 278=some t278:=by kernel_rfl
@[simp] theorem zB5:z01 prog 278:=z02 znP rfl
@[simp] theorem zuS:prog.cellsOf 279=1:=by kernel_rfl
@[simp] theorem znQ:prog.info? 279=some t279:=by kernel_rfl
@[simp] theorem zB6:z01 prog 279:=z02 znQ rfl
@[simp] theorem zuT:prog.cellsOf 280=1:=by kernel_rfl
@[simp] theorem znR:prog.info? 280=some t280:=by kernel_rfl
@[simp] theorem zB7:z01 prog 280:=z02 znR rfl
@[simp] theorem zuU:prog.cellsOf 281=1:=by kernel_rfl
@[simp] theorem znS:prog.info? 281=some t281:=by kernel_rfl
@[simp] theorem zB8:z01 prog 281:=z02 znS rfl
@[simp] theorem zuV:prog.cellsOf 282=1:=by kernel_rfl
@[simp] theorem znT:prog.info? 282=some t282:=by kernel_rfl
@[simp] theorem zB9:z01 prog 282:=z02 znT rfl
@[simp] theorem zuW:prog.cellsOf 283=1:=by kernel_rfl
@[simp] theorem zyo:prog.info? 283=some t283:=by kernel_rfl
@[simp] theorem zuX:prog.cellsOf 284=1:=by kernel_rfl
@[simp] theorem znU:prog.info? 284=some t284:=by kernel_rfl
@[simp] theorem zBa:z01 prog 284:=z02 znU rfl
@[simp] theorem zuY:prog.cellsOf 285=1:=by kernel_rfl
@[simp] theorem znV:prog.info? 285=some t285:=by kernel_rfl
@[simp] theorem zBb:z01 prog 285:=z02 znV rfl
@[simp] theorem zuZ:prog.cellsOf 286=1:=by kernel_rfl
@[simp] theorem znW:prog.info? 286=some t286:=by kernel_rfl
@[simp] theorem zBc:z01 prog 286:=z02 znW rfl
@[simp] theorem zv0:prog.cellsOf 287=1:=by kernel_rfl
@[simp] theorem zyp:prog.info? 287=some t287:=by kernel_rfl
@[simp] theorem zv1:prog.cellsOf 288=1:=by kernel_rfl
@[simp] theorem znX:prog.info? 288=some t288:=by kernel_rfl
@[simp] theorem zBd:z01 prog 288:=z02 znX rfl
@[simp] theorem zv2:prog.cellsOf 289=1:=by kernel_rfl
@[simp] theorem znY:prog.info? 289=some t289:=by kernel_rfl
@[simp] theorem zBe:z01 prog 289:=z02 znY rfl
@[simp] theorem zv3:prog.cellsOf 290=1:=by kernel_rfl
@[simp] theorem zyq:prog.info? 290=some t290:=by kernel_rfl
@[simp] theorem zv4:prog.cellsOf 291=1:=by kernel_rfl
@[simp] theorem znZ:prog.info? 291=some t291:=by kernel_rfl
@[simp] theorem zBf:z01 prog 291:=z02 znZ rfl
@[simp] theorem zv5:prog.cellsOf 292=1:=by kernel_rfl
@[simp] theorem zo0:prog.info? 292=some t292:=by kernel_rfl
@[simp] theorem zBg:z01 prog 292:=z02 zo0 rfl
@[simp] theorem zv6:prog.cellsOf 293=1:=by kernel_rfl
@[simp] theorem zyr:prog.info? 293=some t293:=by kernel_rfl
@[simp] theorem zv7:prog.cellsOf 294=1:=by kernel_rfl
@[simp] theorem zo1:prog.info? 294=some t294:=by kernel_rfl
@[simp] theorem zBh:z01 prog 294:=z02 zo1 rfl
@[simp] theorem zv8:prog.cellsOf 295=1:=by kernel_rfl
@[simp] theorem zo2:prog.info? 295=some t295:=by kernel_rfl
@[simp] theorem zBi:z01 prog 295:=z02 zo2 rfl
@[simp] theorem zv9:prog.cellsOf 296=1:=by kernel_rfl
@[simp] theorem zo3:prog.info? 296=some t296:=by kernel_rfl
@[simp] theorem zBj:z01 prog 296:=z02 zo3 rfl
@[simp] theorem zva:prog.cellsOf 297=1:=by kernel_rfl
@[simp] theorem zo4:prog.info? 297=some t297:=by kernel_rfl
@[simp] theorem zBk:z01 prog 297:=z02 zo4 rfl
@[simp] theorem zvb:prog.cellsOf 298=1:=by kernel_rfl
@[simp] theorem zo5:prog.info? 298=some t298:=by kernel_rfl
@[simp] theorem zBl:z01 prog 298:=z02 zo5 rfl
@[simp] theorem zvc:prog.cellsOf 299=1:=by kernel_rfl
@[simp] theorem zo6:prog.info? 299=some t299:=by kernel_rfl
@[simp] theorem zBm:z01 prog 299:=z02 zo6 rfl
@[simp] theorem zvd:prog.cellsOf 300=1:=by kernel_rfl
@[simp] theorem zo7:prog.info? 300=some t300:=by kernel_rfl
@[simp] theorem zBn:z01 prog 300:=z02 zo7 rfl
@[simp] theorem zve:prog.cellsOf 301=1:=by kernel_rfl
@[simp] theorem zo8:prog.info? 301=some t301:=by kernel_rfl
@[simp] theorem zBo:z01 prog 301:=z02 zo8 rfl
@[simp] theorem zvf:prog.cellsOf 302=1:=by kernel_rfl
@[simp] theorem zo9:prog.info? 302=some t302:=by kernel_rfl
@[simp] theorem zBp:z01 prog 302:=z02 zo9 rfl
@[simp] theorem zvg:prog.cellsOf 303=1:=by kernel_rfl
@[simp] theorem zys:prog.info? 303=some t303:=by kernel_rfl
@[simp] theorem zvh:prog.cellsOf 304=1:=by kernel_rfl
@[simp] theorem zoa:prog.info? 304=some t304:=by kernel_rfl
@[simp] theorem zBq:z01 prog 304:=z02 zoa rfl
@[simp] theorem zvi:prog.cellsOf 305=1:=by kernel_rfl
@[simp] theorem zob:prog.info? 305=some t305:=by kernel_rfl
@[simp] theorem zBr:z01 prog 305:=z02 zob rfl
@[simp] theorem zvj:prog.cellsOf 306=1:=by kernel_rfl
@[simp] theorem zyt:prog.info? 306=some t306:=by kernel_rfl
@[simp] theorem zvk:prog.cellsOf 307=1:=by kernel_rfl
@[simp] theorem zoc:prog.info? 307=some t307:=by kernel_rfl
@[simp] theorem zBs:z01 prog 307:=z02 zoc rfl
@[simp] theorem zvl:prog.cellsOf 308=1:=by kernel_rfl
@[simp] theorem zod:prog.info? 308=some t308:=by kernel_rfl
@[simp] theorem zBt:z01 prog 308:=z02 zod rfl
@[simp] theorem zvm:prog.cellsOf 309=1:=by kernel_rfl
@[simp] theorem zoe:prog.info? 309=some t309:=by kernel_rfl
@[simp] theorem zBu:z01 prog 309:=z02 zoe rfl
@[simp] theorem zvn:prog.cellsOf 310=1:=by kernel_rfl
@[simp] theorem zof:prog.info? 310=some t310:=by kernel_rfl
@[simp] theorem zBv:z01 prog 310:=z02 zof rfl
@[simp] theorem zvo:prog.cellsOf 311=1:=by kernel_rfl
@[simp] theorem zog:prog.info? 311=some t311:=by kernel_rfl
@[simp] theorem zBw:z01 prog 311:=z02 zog rfl
@[simp] theorem zvp:prog.cellsOf 312=1:=by kernel_rfl
@[simp] theorem zoh:prog.info? 312=some t312:=by kernel_rfl
@[simp] theorem zBx:z01 prog 312:=z02 zoh rfl
@[simp] theorem zvq:prog.cellsOf 313=1:=by kernel_rfl
@[simp] theorem zoi:prog.info? 313=some t313:=by kernel_rfl
@[simp] theorem zBy:z01 prog 313:=z02 zoi rfl
@[simp] theorem zvr:prog.cellsOf 314=1:=by kernel_rfl
@[simp] theorem zoj:prog.info? 314=some t314:=by kernel_rfl
@[simp] theorem zBz:z01 prog 314:=z02 zoj rfl
@[simp] theorem zvs:prog.cellsOf 315=1:=by kernel_rfl
@[simp] theorem zok:prog.info? 315=some t315:=by kernel_rfl
@[simp] theorem zBA:z01 prog 315:=z02 zok rfl
@[simp] theorem zvt:prog.cellsOf 316=1:=by kernel_rfl
@[simp] theorem zol:prog.info? 316=some t316:=by kernel_rfl
@[simp] theorem zBB:z01 prog 316:=z02 zol rfl
@[simp] theorem zvu:prog.cellsOf 317=1:=by kernel_rfl
@[simp] theorem zom:prog.info? 317=some t317:=by kernel_rfl
@[simp] theorem zBC:z01 prog 317:=z02 zom rfl
@[simp] theorem zvv:prog.cellsOf 318=1:=by kernel_rfl
@[simp] theorem zon:prog.info? 318=some t318:=by kernel_rfl
@[simp] theorem zBD:z01 prog 318:=z02 zon rfl
@[simp] theorem zvw:prog.cellsOf 319=1:=by kernel_rfl
@[simp] theorem zyu:prog.info? 319=some t319:=by kernel_rfl
@[simp] theorem zvx:prog.cellsOf 320=1:=by kernel_rfl
@[simp] theorem zoo:prog.info? 320=some t320:=by kernel_rfl
@[simp] theorem zBE:z01 prog 320:=z02 zoo rfl
@[simp] theorem zvy:prog.cellsOf 321=1:=by kernel_rfl
@[simp] theorem zop:prog.info? 321=some t321:=by kernel_rfl
@[simp] theorem zBF:z01 prog 321:=z02 zop rfl
@[simp] theorem zvz:prog.cellsOf 322=1:=by kernel_rfl
@[simp] theorem zoq:prog.info? 322=some t322:=by kernel_rfl
@[simp] theorem zBG:z01 prog 322:=z02 zoq rfl
@[simp] theorem zvA:prog.cellsOf 323=1:=by kernel_rfl
@[simp] theorem zor:prog.info? 323=some t323:=by kernel_rfl
@[simp] theorem zBH:z01 prog 323:=z02 zor rfl
@[simp] theorem zvB:prog.cellsOf 324=1:=by kernel_rfl
@[simp] theorem zos:prog.info? 324=some t324:=by kernel_rfl
@[simp] theorem zBI:z01 prog 324:=z02 zos rfl
@[simp] theorem zvC:prog.cellsOf 325=1:=by kernel_rfl
@[simp] theorem zot:prog.info? 325=some t325:=by kernel_rfl
@[simp] theorem zBJ:z01 prog 325:=z02 zot rfl
@[simp] theorem zvD:prog.cellsOf 326=1:=by kernel_rfl
@[simp] theorem zou:prog.info? 326=some t326:=by kernel_rfl
@[simp] theorem zBK:z01 prog 326:=z02 zou rfl
@[simp] theorem zvE:prog.cellsOf 327=1:=by kernel_rfl
@[simp] theorem zov:prog.info? 327=some t327:=by kernel_rfl
@[simp] theorem zBL:z01 prog 327:=z02 zov rfl
@[simp] theorem zvF:prog.cellsOf 328=1:=by kernel_rfl
@[simp] theorem zow:prog.info? 328=some t328:=by kernel_rfl
@[simp] theorem zBM:z01 prog 328:=z02 zow rfl
@[simp] theorem zvG:prog.cellsOf 329=1:=by kernel_rfl
@[simp] theorem zox:prog.info? 329=some t329:=by kernel_rfl
@[simp] theorem zBN:z01 prog 329:=z02 zox rfl
@[simp] theorem zvH:prog.cellsOf 330=1:=by kernel_rfl
@[simp] theorem zoy:prog.info? 330=some t330:=by kernel_rfl
@[simp] theorem zBO:z01 prog 330:=z02 zoy rfl
@[simp] theorem zvI:prog.cellsOf 331=1:=by kernel_rfl
@[simp] theorem zoz:prog.info? 331=some t331:=by kernel_rfl
@[simp] theorem zBP:z01 prog 331:=z02 zoz rfl
@[simp] theorem zvJ:prog.cellsOf 332=4:=by kernel_rfl
@[simp] theorem zoA:prog.info? 332=some t332:=by kernel_rfl
@[simp] theorem zBQ:z01 prog 332:=z02 zoA rfl
@[simp] theorem zvK:prog.cellsOf 333=4:=by kernel_rfl
@[simp] theorem zoB:prog.info? 333=some t333:=by kernel_rfl
@[simp] theorem zBR:z01 prog 333:=z02 zoB rfl
@[simp] theorem zvL:prog.cellsOf 334=0:=by kernel_rfl
@[simp] theorem zoC:prog.info? 334=some t334:=by kernel_rfl
@[simp] theorem zBS:z01 prog 334:=z02 zoC rfl
@[simp] theorem zvM:prog.cellsOf 335=0:=by kernel_rfl
@[simp] theorem zoD:prog.info? 335=some t335:=by kernel_rfl
@[simp] theorem zBT:z01 prog 335:=z02 zoD rfl
@[simp] theorem zvN:prog.cellsOf 336=0:=by kernel_rfl
@[simp] theorem zoE:prog.info? 336=some t336:=by kernel_rfl
@[simp] theorem zBU:z01 prog 336:=z02 zoE rfl
@[simp] theorem zvO:prog.cellsOf 337=1:=by kernel_rfl
@[simp] theorem zoF:prog.info? 337=some t337:=by kernel_rfl
@[simp] theorem zBV:z01 prog 337:=z02 zoF rfl
@[simp] theorem zvP:prog.cellsOf 338=1:=by kernel_rfl
@[simp] theorem zoG:prog.info? 338=some t338:=by kernel_rfl
@[simp] theorem zBW:z01 prog 338:=z02 zoG rfl
@[simp] theorem zvQ:prog.cellsOf 339=1:=by kernel_rfl
@[simp] theorem zoH:prog.info? 339=some t339:=by kernel_rfl
@[simp] theorem zBX:z01 prog 339:=z02 zoH rfl
@[simp] theorem zvR:prog.cellsOf 340=1:=by kernel_rfl
@[simp] theorem zoI:prog.info? 340=some t340:=by kernel_rfl
@[simp] theorem zBY:z01 prog 340:=z02 zoI rfl
@[simp] theorem zvS:prog.cellsOf 341=1:=by kernel_rfl
@[simp] theorem zoJ:prog.info? 341=some t341:=by kernel_rfl
@[simp] theorem zBZ:z01 prog 341:=z02 zoJ rfl
@[simp] theorem zvT:prog.cellsOf 342=1:=by kernel_rfl
@[simp] theorem zoK:prog.info? 342=some t342:=by kernel_rfl
@[simp] theorem zC0:z01 prog 342:=z02 zoK rfl
@[simp] theorem zvU:prog.cellsOf 343=1:=by kernel_rfl
@[simp] theorem zoL:prog.info? 343=some t343:=by kernel_rfl
@[simp] theorem zC1:z01 prog 343:=z02 zoL rfl
@[simp] theorem zvV:prog.cellsOf 344=11:=by kernel_rfl
@[simp] theorem zoM:prog.info? 344=some t344:=by kernel_rfl
@[simp] theorem zC2:z01 prog 344:=z02 zoM rfl
@[simp] theorem zvW:prog.cellsOf 345=11:=by kernel_rfl
@[simp] theorem zoN:prog.info? 345=some t345:=by kernel_rfl
@[simp] theorem zC3:z01 prog 345:=z02 zoN rfl
@[simp] theorem zvX:prog.cellsOf 346=1:=by kernel_rfl
@[simp] theorem zoO:prog.info? 346=some t346:=by kernel_rfl
@[simp] theorem zC4:z01 prog 346:=z02 zoO rfl
end Go.Proofs.YtaagjnlkinojcaaGreat
