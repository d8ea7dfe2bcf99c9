/- The facts on the types of this seat's program: closed equations. (and what stands behind it: texts laid together) -/
import Derived.Test.YtooblcpmpemhfaaGreatDoorProg
import Derived.Test.YtooblcpmpemhfaaGreatDoorMG3
import Derived.Test.YtooblcpmpemhfaaGreatDoorMG4
set_option linter.unusedVariables false
set_option linter.unusedSimpArgs false
open Go Go.Eng Go.Proofs Go.RowKit
set_option maxHeartbeats 32000000
set_option maxRecDepth 100000
namespace Go.Eng.Tryz
open Go Go.Eng Go.Proofs
theorem fK:(fun P:Program=>AZ P 2=some false∧BV P 2=some 1∧E5 P 2=some 8∧C3 P 2=none∧Jy P 2=some .i64∧Av P 2=some (.int .i64 0)∧CS P 2=true∧AZ P 3=some false∧BV P 3=some 1∧E5 P 3=some 8∧C3 P 3=none∧Jy P 3=some .i64∧Av P 3=some (.int .i64 0)∧CS P 3=true∧AZ P 4=some false∧BV P 4=some 1∧E5 P 4=some 1∧C3 P 4=none∧Ma P 4=true∧Av P 4=some (.bool false)∧CS P 4=true∧AZ P 5=some false∧BV P 5=some 1∧E5 P 5=some 1∧C3 P 5=none∧Jy P 5=some .u8∧Av P 5=some (.int .u8 0)∧CS P 5=true∧AZ P 9=some false∧BV P 9=some 1∧E5 P 9=some 16∧C3 P 9=none∧Ic P 9=true∧Av P 9=some (.str ⟨#[]⟩)∧CS P 9=true∧AZ P 21=some false∧BV P 21=some 1∧E5 P 21=some 4∧C3 P 21=none∧Jy P 21=some .i32) Tryz.prog:=by
 refine⟨?_,?_,?_,?_,?_,?_,?_,?_,?_,?_,?_,?_,?_,?_,?_,?_,?_,?_,?_,?_,?_,?_,?_,?_,?_,?_,?_,?_,?_,?_,?_,?_,?_,?_,?_,?_,?_,?_,?_,?_⟩<;>kernel_rfl
theorem fL:(fun P:Program=>Av P 21=some (.int .i32 0)∧CS P 21=true∧AZ P 22=some false∧BV P 22=some 1∧E5 P 22=some 24∧C3 P 22=some 57∧Av P 22=some .nils∧CS P 22=true∧AZ P 23=some false∧BV P 23=some 1∧E5 P 23=some 24∧C3 P 23=some 84∧Av P 23=some .nils∧CS P 23=true∧AZ P 27=some false∧BV P 27=some 1∧E5 P 27=some 8∧C3 P 27=none∧Jy P 27=some .i64∧Av P 27=some (.int .i64 0)∧CS P 27=true∧AZ P 33=some false∧BV P 33=some 1∧E5 P 33=some 8∧C3 P 33=none∧Jy P 33=some .u64∧Av P 33=some (.int .u64 0)∧CS P 33=true∧AZ P 34=some false∧BV P 34=some 1∧E5 P 34=some 24∧C3 P 34=some 77∧Av P 34=some .nils∧CS P 34=true∧AZ P 36=some true∧BV P 36=some 5∧E5 P 36=some 56∧C3 P 36=none∧Av P 36=some (.agg [(.int .u64 0),(.int .u64 0),(.int .u64 0),(.int .u64 0),.nils])∧CS P 36=true) Tryz.prog:=by
 refine⟨?_,?_,?_,?_,?_,?_,?_,?_,?_,?_,?_,?_,?_,?_,?_,?_,?_,?_,?_,?_,?_,?_,?_,?_,?_,?_,?_,?_,?_,?_,?_,?_,?_,?_,?_,?_,?_,?_,?_,?_⟩<;>kernel_rfl
theorem XU:(fun P:Program=>D8 P 36=true∧C4 P 36 0=some (0,1)∧C4 P 36 1=some (1,1)∧C4 P 36 2=some (2,1)∧C4 P 36 3=some (3,1)∧C4 P 36 4=some (4,1)∧AZ P 38=some true∧BV P 38=some 6∧E5 P 38=some 80∧C3 P 38=none∧Av P 38=some (.agg [.nils,(.int .u64 0),(.int .u64 0),(.int .u64 0),(.int .u64 0),.nils])∧CS P 38=true∧D8 P 38=true∧C4 P 38 0=some (0,1)∧C4 P 38 1=some (1,5)∧AZ P 49=some false∧BV P 49=some 1∧E5 P 49=some 24∧C3 P 49=some 5∧Av P 49=some .nils∧CS P 49=true∧AZ P 57=some false∧BV P 57=some 1∧E5 P 57=some 24∧C3 P 57=some 3∧Av P 57=some .nils∧CS P 57=true∧AZ P 59=some false∧BV P 59=some 1∧E5 P 59=some 24∧C3 P 59=some 67∧Av P 59=some .nils∧CS P 59=true∧AZ P 65=some false∧BV P 65=some 1∧E5 P 65=some 2∧C3 P 65=none∧Jy P 65=some .u16∧Av P 65=some (.int .u16 0)∧CS P 65=true) Tryz.prog:=by
 refine⟨?_,?_,?_,?_,?_,?_,?_,?_,?_,?_,?_,?_,?_,?_,?_,?_,?_,?_,?_,?_,?_,?_,?_,?_,?_,?_,?_,?_,?_,?_,?_,?_,?_,?_,?_,?_,?_,?_,?_,?_⟩<;>kernel_rfl
theorem fM:(fun P:Program=>AZ P 67=some true∧BV P 67=some 2∧E5 P 67=some 32∧C3 P 67=none∧Av P 67=some (.agg [.nils,(.int .u64 0)])∧CS P 67=true∧D8 P 67=true∧C4 P 67 0=some (0,1)∧C4 P 67 1=some (1,1)∧AZ P 73=some false∧BV P 73=some 1∧C3 P 73=none∧Av P 73=some .nilf∧CS P 73=true∧AZ P 77=some true∧BV P 77=some 3∧E5 P 77=some 56∧C3 P 77=none∧Av P 77=some (.agg [.nils,.nils,(.int .u64 0)])∧CS P 77=true∧D8 P 77=true∧C4 P 77 0=some (0,1)∧C4 P 77 1=some (1,1)∧C4 P 77 2=some (2,1)∧AZ P 78=some false∧BV P 78=some 1∧C3 P 78=none∧Av P 78=some .nilf∧CS P 78=true∧AZ P 82=some false∧BV P 82=some 1∧E5 P 82=some 24∧C3 P 82=some 86∧Av P 82=some .nils∧CS P 82=true∧AZ P 84=some true∧BV P 84=some 2∧E5 P 84=some 32∧C3 P 84=none∧Av P 84=some (.agg [(.bool false),.nils])) Tryz.prog:=by
 refine⟨?_,?_,?_,?_,?_,?_,?_,?_,?_,?_,?_,?_,?_,?_,?_,?_,?_,?_,?_,?_,?_,?_,?_,?_,?_,?_,?_,?_,?_,?_,?_,?_,?_,?_,?_,?_,?_,?_,?_,?_⟩<;>kernel_rfl
theorem fN:(fun P:Program=>CS P 84=true∧D8 P 84=true∧C4 P 84 0=some (0,1)∧C4 P 84 1=some (1,1)∧AZ P 86=some true∧BV P 86=some 2∧E5 P 86=some 16∧C3 P 86=none∧Av P 86=some (.agg [(.int .i64 0),(.int .i64 0)])∧CS P 86=true∧D8 P 86=true∧C4 P 86 0=some (0,1)∧C4 P 86 1=some (1,1)∧AZ P 87=some false∧BV P 87=some 1∧C3 P 87=none∧Av P 87=some .nilp∧CS P 87=true∧AZ P 89=some false∧BV P 89=some 1∧C3 P 89=none∧Q4 P 89=some (9,3)∧Av P 89=some .nilm∧CS P 89=true∧AZ P 90=some false∧BV P 90=some 1∧E5 P 90=some 24∧C3 P 90=some 98∧Av P 90=some .nils∧CS P 90=true∧AZ P 92=some true∧BV P 92=some 5∧E5 P 92=some 104∧C3 P 92=none∧Av P 92=some (.agg [.nils,.nils,.nils,.nilm,.nils])∧CS P 92=true∧D8 P 92=true∧C4 P 92 0=some (0,1)∧C4 P 92 1=some (1,1)∧C4 P 92 2=some (2,1)) Tryz.prog:=by
 refine⟨?_,?_,?_,?_,?_,?_,?_,?_,?_,?_,?_,?_,?_,?_,?_,?_,?_,?_,?_,?_,?_,?_,?_,?_,?_,?_,?_,?_,?_,?_,?_,?_,?_,?_,?_,?_,?_,?_,?_,?_⟩<;>kernel_rfl
theorem fO:(fun P:Program=>C4 P 92 3=some (3,1)∧C4 P 92 4=some (4,1)∧AZ P 93=some false∧BV P 93=some 1∧C3 P 93=none∧Av P 93=some .nilf∧CS P 93=true∧AZ P 96=some false∧BV P 96=some 1∧C3 P 96=none∧Av P 96=some .nilf∧CS P 96=true∧AZ P 98=some true∧BV P 98=some 3∧E5 P 98=some 40∧C3 P 98=none∧Av P 98=some (.agg [(.int .i64 0),(.int .i64 0),.nils])∧CS P 98=true∧D8 P 98=true∧C4 P 98 0=some (0,1)∧C4 P 98 1=some (1,1)∧C4 P 98 2=some (2,1)∧AZ P 112=some false∧BV P 112=some 1∧C3 P 112=none∧Av P 112=some .nilf∧CS P 112=true∧AZ P 113=some true∧BV P 113=some 6∧E5 P 113=some 80∧C3 P 113=none∧Av P 113=some (.agg [.nils,(.int .u64 0),(.int .u64 0),(.int .u64 0),(.int .u64 0),.nils])∧CS P 113=true∧D8 P 113=true∧C4 P 113 0=some (0,1)∧C4 P 113 1=some (1,5)∧AZ P 115=some true∧BV P 115=some 2∧E5 P 115=some 16∧C3 P 115=none) Tryz.prog:=by
 refine⟨?_,?_,?_,?_,?_,?_,?_,?_,?_,?_,?_,?_,?_,?_,?_,?_,?_,?_,?_,?_,?_,?_,?_,?_,?_,?_,?_,?_,?_,?_,?_,?_,?_,?_,?_,?_,?_,?_,?_,?_⟩<;>kernel_rfl
theorem fP:(fun P:Program=>Av P 115=some (.agg [.nilf,(.int .i64 0)])∧CS P 115=true∧D8 P 115=true∧C4 P 115 0=some (0,1)∧C4 P 115 1=some (1,1)∧AZ P 116=some true∧BV P 116=some 8∧E5 P 116=some 64∧C3 P 116=none∧D8 P 116=false∧LF P 116=some (4,115)∧Av P 116=some (.agg [.nilf,(.int .i64 0),.nilf,(.int .i64 0),.nilf,(.int .i64 0),.nilf,(.int .i64 0)])∧CS P 116=true∧AZ P 118=some false∧BV P 118=some 1∧C3 P 118=none∧Av P 118=some .nilf∧CS P 118=true∧AZ P 122=some false∧BV P 122=some 1∧C3 P 122=none∧Av P 122=some .nilf∧CS P 122=true∧AZ P 124=some false∧BV P 124=some 1∧E5 P 124=some 24∧C3 P 124=some 33∧Av P 124=some .nils∧CS P 124=true∧AZ P 128=some false∧BV P 128=some 1∧C3 P 128=none∧Av P 128=some .nilf∧CS P 128=true∧AZ P 141=some false∧BV P 141=some 1∧E5 P 141=some 24∧C3 P 141=some 221∧Av P 141=some .nils∧CS P 141=true) Tryz.prog:=by
 refine⟨?_,?_,?_,?_,?_,?_,?_,?_,?_,?_,?_,?_,?_,?_,?_,?_,?_,?_,?_,?_,?_,?_,?_,?_,?_,?_,?_,?_,?_,?_,?_,?_,?_,?_,?_,?_,?_,?_,?_,?_⟩<;>kernel_rfl
theorem fQ:(fun P:Program=>AZ P 142=some false∧BV P 142=some 1∧E5 P 142=some 24∧C3 P 142=some 124∧Av P 142=some .nils∧CS P 142=true∧AZ P 144=some true∧BV P 144=some 9∧E5 P 144=some 152∧C3 P 144=none∧Av P 144=some (.agg [.nils,(.int .u64 0),(.int .u64 0),(.int .u64 0),(.int .u64 0),.nils,.nils,.nils,.nils])∧CS P 144=true∧D8 P 144=true∧C4 P 144 0=some (0,6)∧C4 P 144 1=some (6,1)∧C4 P 144 2=some (7,1)∧C4 P 144 3=some (8,1)∧AZ P 146=some false∧BV P 146=some 1∧E5 P 146=some 24∧C3 P 146=some 148∧Av P 146=some .nils∧CS P 146=true∧AZ P 148=some true∧BV P 148=some 4∧E5 P 148=some 48∧C3 P 148=none∧Av P 148=some (.agg [(.int .u64 0),.nils,(.bool false),(.int .i64 0)])∧CS P 148=true∧D8 P 148=true∧C4 P 148 0=some (0,1)∧C4 P 148 1=some (1,1)∧C4 P 148 2=some (2,1)∧C4 P 148 3=some (3,1)∧AZ P 150=some false∧BV P 150=some 1∧C3 P 150=none∧Av P 150=some .nilf∧CS P 150=true∧AZ P 156=some false) Tryz.prog:=by
 refine⟨?_,?_,?_,?_,?_,?_,?_,?_,?_,?_,?_,?_,?_,?_,?_,?_,?_,?_,?_,?_,?_,?_,?_,?_,?_,?_,?_,?_,?_,?_,?_,?_,?_,?_,?_,?_,?_,?_,?_,?_⟩<;>kernel_rfl
theorem fR:(fun P:Program=>BV P 156=some 1∧C3 P 156=none∧Av P 156=some .nilf∧CS P 156=true∧AZ P 172=some false∧BV P 172=some 1∧C3 P 172=none∧Q4 P 172=some (86,3)∧Av P 172=some .nilm∧CS P 172=true∧AZ P 176=some false∧BV P 176=some 1∧E5 P 176=some 8∧C3 P 176=none∧Jy P 176=some .u64∧Av P 176=some (.int .u64 0)∧CS P 176=true∧AZ P 177=some false∧BV P 177=some 1∧C3 P 177=none∧Av P 177=some .nilf∧CS P 177=true∧AZ P 180=some false∧BV P 180=some 1∧C3 P 180=none∧Av P 180=some .nilf∧CS P 180=true∧AZ P 192=some false∧BV P 192=some 1∧C3 P 192=none∧Q4 P 192=some (197,33)∧Av P 192=some .nilm∧CS P 192=true∧AZ P 193=some true∧BV P 193=some 8∧E5 P 193=some 64∧C3 P 193=none∧D8 P 193=false∧LF P 193=some (8,3)∧Av P 193=some (.agg [(.int .i64 0),(.int .i64 0),(.int .i64 0),(.int .i64 0),(.int .i64 0),(.int .i64 0),(.int .i64 0),(.int .i64 0)])) Tryz.prog:=by
 refine⟨?_,?_,?_,?_,?_,?_,?_,?_,?_,?_,?_,?_,?_,?_,?_,?_,?_,?_,?_,?_,?_,?_,?_,?_,?_,?_,?_,?_,?_,?_,?_,?_,?_,?_,?_,?_,?_,?_,?_,?_⟩<;>kernel_rfl
theorem fS:(fun P:Program=>CS P 193=true∧AZ P 195=some true∧BV P 195=some 9∧E5 P 195=some 72∧C3 P 195=none∧Av P 195=some (.agg [(.int .i64 0),(.int .i64 0),(.int .i64 0),(.int .i64 0),(.int .i64 0),(.int .i64 0),(.int .i64 0),(.int .i64 0),(.int .i64 0)])∧CS P 195=true∧D8 P 195=true∧C4 P 195 0=some (0,1)∧C4 P 195 1=some (1,8)∧AZ P 197=some true∧BV P 197=some 18∧E5 P 197=some 144∧C3 P 197=none∧Av P 197=some (.agg [(.int .i64 0),(.int .i64 0),(.int .i64 0),(.int .i64 0),(.int .i64 0),(.int .i64 0),(.int .i64 0),(.int .i64 0),(.int .i64 0),(.int .i64 0),(.int .i64 0),(.int .i64 0),(.int .i64 0),(.int .i64 0),(.int .i64 0),(.int .i64 0),(.int .i64 0),(.int .i64 0)])∧CS P 197=true∧D8 P 197=true∧C4 P 197 0=some (0,9)∧C4 P 197 1=some (9,9)∧AZ P 202=some false∧BV P 202=some 1∧C3 P 202=none∧Av P 202=some .nilf∧CS P 202=true∧AZ P 204=some false∧BV P 204=some 1∧E5 P 204=some 4∧C3 P 204=none∧Jy P 204=some .u32∧Av P 204=some (.int .u32 0)∧CS P 204=true∧AZ P 207=some false∧BV P 207=some 1∧C3 P 207=none∧Av P 207=some .nilf∧CS P 207=true∧AZ P 216=some false∧BV P 216=some 1∧C3 P 216=none∧Av P 216=some .nilf) Tryz.prog:=by
 refine⟨?_,?_,?_,?_,?_,?_,?_,?_,?_,?_,?_,?_,?_,?_,?_,?_,?_,?_,?_,?_,?_,?_,?_,?_,?_,?_,?_,?_,?_,?_,?_,?_,?_,?_,?_,?_,?_,?_,?_,?_⟩<;>kernel_rfl
theorem fm:(fun P:Program=>CS P 216=true∧AZ P 218=some true∧BV P 218=some 2∧E5 P 218=some 32∧C3 P 218=none∧Av P 218=some (.agg [.nils,.nilf])∧CS P 218=true∧D8 P 218=true∧C4 P 218 0=some (0,1)∧C4 P 218 1=some (1,1)∧AZ P 221=some false∧BV P 221=some 1∧E5 P 221=some 24∧C3 P 221=some 223∧Av P 221=some .nils∧CS P 221=true∧AZ P 223=some true∧BV P 223=some 4∧E5 P 223=some 48∧C3 P 223=none∧Av P 223=some (.agg [(.int .i64 0),.nils,(.bool false),(.int .u64 0)])∧CS P 223=true∧D8 P 223=true∧C4 P 223 0=some (0,1)∧C4 P 223 1=some (1,1)∧C4 P 223 2=some (2,1)∧C4 P 223 3=some (3,1)∧AZ P 226=some false∧BV P 226=some 1∧C3 P 226=none∧Av P 226=some .nilf∧CS P 226=true∧AZ P 231=some false∧BV P 231=some 1∧E5 P 231=some 8∧C3 P 231=none∧Jy P 231=some .i64∧Av P 231=some (.int .i64 0)∧CS P 231=true∧AZ P 241=some false) Tryz.prog:=by
 refine⟨?_,?_,?_,?_,?_,?_,?_,?_,?_,?_,?_,?_,?_,?_,?_,?_,?_,?_,?_,?_,?_,?_,?_,?_,?_,?_,?_,?_,?_,?_,?_,?_,?_,?_,?_,?_,?_,?_,?_,?_⟩<;>kernel_rfl
theorem fo:(fun P:Program=>BV P 241=some 1∧C3 P 241=none∧Av P 241=some .nilf∧CS P 241=true∧AZ P 243=some false∧BV P 243=some 1∧C3 P 243=none∧Av P 243=some .nilf∧CS P 243=true∧AZ P 261=some false∧BV P 261=some 1∧E5 P 261=some 8∧C3 P 261=none∧Jy P 261=some .u64∧Av P 261=some (.int .u64 0)∧CS P 261=true∧AZ P 264=some false∧BV P 264=some 1∧C3 P 264=none∧Av P 264=some .nilp∧CS P 264=true∧AZ P 268=some false∧BV P 268=some 1∧C3 P 268=none∧Av P 268=some .nilp∧CS P 268=true∧AZ P 270=some true∧BV P 270=some 4∧E5 P 270=some 80∧C3 P 270=none∧Av P 270=some (.agg [.nils,.nils,.nils,.nilf])∧CS P 270=true∧D8 P 270=true∧C4 P 270 0=some (0,1)∧C4 P 270 1=some (1,1)∧C4 P 270 2=some (2,1)∧C4 P 270 3=some (3,1)∧AZ P 284=some false∧BV P 284=some 1∧C3 P 284=none) Tryz.prog:=by
 refine⟨?_,?_,?_,?_,?_,?_,?_,?_,?_,?_,?_,?_,?_,?_,?_,?_,?_,?_,?_,?_,?_,?_,?_,?_,?_,?_,?_,?_,?_,?_,?_,?_,?_,?_,?_,?_,?_,?_,?_,?_⟩<;>kernel_rfl
theorem fp:(fun P:Program=>Av P 284=some .nilf∧CS P 284=true∧AZ P 292=some false∧BV P 292=some 1∧C3 P 292=none∧Av P 292=some .nilp∧CS P 292=true∧AZ P 296=some true∧BV P 296=some 24∧E5 P 296=some 24∧C3 P 296=none∧D8 P 296=false∧LF P 296=some (24,5)∧Av P 296=some (.agg [(.int .u8 0),(.int .u8 0),(.int .u8 0),(.int .u8 0),(.int .u8 0),(.int .u8 0),(.int .u8 0),(.int .u8 0),(.int .u8 0),(.int .u8 0),(.int .u8 0),(.int .u8 0),(.int .u8 0),(.int .u8 0),(.int .u8 0),(.int .u8 0),(.int .u8 0),(.int .u8 0),(.int .u8 0),(.int .u8 0),(.int .u8 0),(.int .u8 0),(.int .u8 0),(.int .u8 0)])∧CS P 296=true∧AZ P 304=some false∧BV P 304=some 1∧C3 P 304=none∧Av P 304=some .nilf∧CS P 304=true∧AZ P 307=some true∧BV P 307=some 20∧E5 P 307=some 160∧C3 P 307=none∧D8 P 307=false∧LF P 307=some (20,33)∧Av P 307=some (.agg [(.int .u64 0),(.int .u64 0),(.int .u64 0),(.int .u64 0),(.int .u64 0),(.int .u64 0),(.int .u64 0),(.int .u64 0),(.int .u64 0),(.int .u64 0),(.int .u64 0),(.int .u64 0),(.int .u64 0),(.int .u64 0),(.int .u64 0),(.int .u64 0),(.int .u64 0),(.int .u64 0),(.int .u64 0),(.int .u64 0)])∧CS P 307=true∧AZ P 308=some true∧BV P 308=some 65∧E5 P 308=some 65∧C3 P 308=none∧D8 P 308=false∧LF P 308=some (65,5)∧AZ P 311=some true∧BV P 311=some 32∧E5 P 311=some 32∧C3 P 311=none∧D8 P 311=false∧LF P 311=some (32,5)) Tryz.prog:=by
 refine⟨?_,?_,?_,?_,?_,?_,?_,?_,?_,?_,?_,?_,?_,?_,?_,?_,?_,?_,?_,?_,?_,?_,?_,?_,?_,?_,?_,?_,?_,?_,?_,?_,?_,?_,?_,?_,?_,?_,?_,?_⟩<;>kernel_rfl
theorem fq:(fun P:Program=>Av P 311=some (.agg [(.int .u8 0),(.int .u8 0),(.int .u8 0),(.int .u8 0),(.int .u8 0),(.int .u8 0),(.int .u8 0),(.int .u8 0),(.int .u8 0),(.int .u8 0),(.int .u8 0),(.int .u8 0),(.int .u8 0),(.int .u8 0),(.int .u8 0),(.int .u8 0),(.int .u8 0),(.int .u8 0),(.int .u8 0),(.int .u8 0),(.int .u8 0),(.int .u8 0),(.int .u8 0),(.int .u8 0),(.int .u8 0),(.int .u8 0),(.int .u8 0),(.int .u8 0),(.int .u8 0),(.int .u8 0),(.int .u8 0),(.int .u8 0)])∧CS P 311=true∧AZ P 312=some true∧BV P 312=some 64∧E5 P 312=some 64∧C3 P 312=none∧D8 P 312=false∧LF P 312=some (64,5)) Tryz.prog:=by
 refine⟨?_,?_,?_,?_,?_,?_,?_,?_⟩<;>kernel_rfl
theorem mixed:Tryz.prog.follows .mixedOrders=true:=by kernel_rfl
attribute [go_sem] fK fL XU fM fN fO fP fQ fR fS fm fo fp fq
end Go.Eng.Tryz
namespace Go.Eng.Tryz
def is(l:List Int):List D:=l.map fun z=>D.int .i64 z
theorem Aq{l:List Int}:(is l).length=l.length:=by simp[is]
theorem As{l:List Int}{k:Nat}(h:k<l.length):(is l)[k]? =some (D.int .i64 (l[k]!)):=by
 simp[is,List.getElem?_eq_getElem h,getElem!_pos l k h]
attribute [local go_sem] Aq As
theorem U0{a:Int}:A3 Tryz.prog 124 [.int .i64 a] (.bool false):=by
 have e:(a !=a)=false:=by simp
 refine A6 6 Tryz.func124 A4 fun X_ w_=>?_;refine Au @e ?_;try exact trivial
theorem Yl{a b:Int}:A3 Tryz.prog 252 [.int .i64 a,.int .i64 b] (.bool (decide (a<b))):=by
 refine A6 17 Tryz.func252 Ah fun X_ w_=>?_;have c0_:=@U0;refine Ao ?_;try exact trivial
def EE(a b:Int):Int:=if a<b then -1 else if b<a then 1 else 0
theorem MG{a b:Int}:A3 Tryz.prog 59 [.int .i64 a,.int .i64 b] (.int .i64 (EE a b)):=by
 by_cases h1:a<b
 ·have e:EE a b = -1:=by unfold EE;rw[if_pos h1]
  refine A6 20 Tryz.func59 Ah fun X_ w_=>?_;have c0_:=@U0;refine Au @e ?_;try exact trivial
 ·by_cases h2:b<a
  ·have e:EE a b=1:=by unfold EE;rw[if_neg h1,if_pos h2]
   refine A6 20 Tryz.func59 Ah fun X_ w_=>?_;have c0_:=@U0;refine Au @e ?_;try exact trivial
  ·have e:EE a b=0:=by unfold EE;rw[if_neg h1,if_neg h2]
   refine A6 20 Tryz.func59 Ah fun X_ w_=>?_;have c0_:=@U0;refine Au @e ?_;try exact trivial
def Ae:List Int→List Int→Int
 | [],[]=>0
 | [],_::_ => -1
 |_::_,[]=>1
 |x::a,y::b=>if x<y then -1 else if y<x then 1 else Ae a b
theorem JU{l:List Int}{k:Nat}(h:k<l.length):l.drop k=l[k]!::l.drop (k+1):=by
 rw[List.drop_eq_getElem_cons h,getElem!_pos l k h]
theorem Zy{a b:List Int}{k:Nat}(h:k<a.length)(h':k<b.length)(hw:Ae (a.drop k) (b.drop k)=Ae a b) :
 (a[k]! =b[k]!→Ae (a.drop (k+1)) (b.drop (k+1))=Ae a b)∧(EE (a[k]!) (b[k]!)≠0→EE (a[k]!) (b[k]!)=Ae a b):=by
 rw[JU h,JU h']at hw;simp only[Ae]at hw;unfold EE;constructor
 ·intro e;rw[if_neg (by omega),if_neg (by omega)]at hw;exact hw
 ·intro e;by_cases h1:a[k]! <b[k]!
  ·rw[if_pos h1]at hw ⊢;exact hw
  ·rw[if_neg h1]at hw ⊢ e;by_cases h2:b[k]! <a[k]!
   ·rw[if_pos h2]at hw ⊢;exact hw
   ·rw[if_neg h2]at e;exact absurd rfl e
theorem aT{a b:Int}(h:EE a b=0):a=b:=by
 unfold EE at h;split at h
 ·cases h
 ·split at h
  ·cases h
  ·omega
theorem GZ{a b:List Int}(ha:a.length≤9223372036854775807)(hb:b.length≤9223372036854775807):A3 Tryz.prog 60 [.sl 1 (is a),.sl 1 (is b)] (.int .i64 (Ae a b)):=by
 refine A6 36 Tryz.func60 Ah fun X_ w_=>?_;refine Ao ?_;try exact trivial
 refine A8 (fun k:Nat=>k≤a.length∧k≤b.length∧Ae (a.drop k) (b.drop k)=Ae a b) (fun k=>[(0,.d (.sl 1 (is a))),(1,.d (.sl 1 (is b))),(9,.d (.sl 1 (is a))),(10,.d (.int .i64 a.length)),(11,.d (.int .i64 k))]) (fun _=>[]) 0 (fun k=>a.length-k) [0,1,9,10,11] [] 0 ⟨Nat.zero_le _,Nat.zero_le _,rfl⟩ rfl rfl (Nat.le_refl _) (fun _ _=>rfl) (fun _ _=>rfl) fun k hk=>?_;obtain⟨hk1,hk2,hw⟩:=hk;refine Ao ?_;try exact trivial
 with_reducible apply Ok (by simp(disch:=omega)only[go_sem];rfl)<;>intro hc<;>(try simp only[decide_eq_true_eq,decide_eq_false_iff_not,beq_iff_eq,beq_eq_false_iff_ne,bne_iff_ne,bne_eq_false_iff_eq,gt_iff_lt,ge_iff_le,Int.not_lt,Int.not_le,ne_eq]at hc)
 ·have hk':k<a.length:=by omega
  refine Ao ?_;try exact trivial
  with_reducible apply Ok (by simp(disch:=omega)only[go_sem];rfl)<;>intro hc<;>(try simp only[decide_eq_true_eq,decide_eq_false_iff_not,beq_iff_eq,beq_eq_false_iff_ne,bne_iff_ne,bne_eq_false_iff_eq,gt_iff_lt,ge_iff_le,Int.not_lt,Int.not_le,ne_eq]at hc)
  ·have e:Ae a b=1:=by
    rw[← hw,JU hk',show b.drop k=[]from List.drop_eq_nil_of_le (by omega)];rfl
   refine Au @e ?_;try exact trivial
  ·have hk2':k<b.length:=by omega
   obtain⟨w1,w2⟩:=Zy hk' hk2' hw;have c0_:=@MG;refine Ao ?_;try exact trivial
   with_reducible apply Ok (by simp(disch:=omega)only[go_sem];rfl)<;>intro hc<;>(try simp only[decide_eq_true_eq,decide_eq_false_iff_not,beq_iff_eq,beq_eq_false_iff_ne,bne_iff_ne,bne_eq_false_iff_eq,gt_iff_lt,ge_iff_le,Int.not_lt,Int.not_le,ne_eq]at hc)
   ·have e:=w2 hc;refine Au @e ?_;try exact trivial
   ·have e:=aT hc;have w3:=w1 e;refine Ao ?_;try exact trivial
    refine⟨k+1,⟨by omega,by omega,w3⟩,?_,rfl,by omega⟩;exact Ei
 ·have hk':k=a.length:=by omega
  subst hk';have ed:a.drop a.length=[]:=List.drop_eq_nil_of_le (Nat.le_refl _);refine Ao ?_;try exact trivial
  with_reducible apply Ok (by simp(disch:=omega)only[go_sem];rfl)<;>intro hc<;>(try simp only[decide_eq_true_eq,decide_eq_false_iff_not,beq_iff_eq,beq_eq_false_iff_ne,bne_iff_ne,bne_eq_false_iff_eq,gt_iff_lt,ge_iff_le,Int.not_lt,Int.not_le,ne_eq]at hc)
  ·have e:Ae a b = -1:=by
    rw[← hw,ed,JU (by omega)];rfl
   refine Au @e ?_;try exact trivial
  ·have e:Ae a b=0:=by
    rw[← hw,ed,show b.drop a.length=[]from List.drop_eq_nil_of_le (by omega)];rfl
   refine Au @e ?_;try exact trivial
theorem DQ{a b:List Int}(ha:a.length≤9223372036854775807)(hb:b.length≤9223372036854775807):A3 Tryz.prog 121 [.sl 1 (is a),.sl 1 (is b)] (.bool (decide (Ae a b<0))):=by
 refine A6 9 Tryz.func121 Ah fun X_ w_=>?_;have c0_:=GZ ha hb;refine Ao ?_;try exact trivial
theorem Zf{a b:List Int}(ha:a.length≤9223372036854775807)(hb:b.length≤9223372036854775807):A3 Tryz.prog 50 [.sl 1 (is a),.sl 1 (is b)] (.bool (decide (a=b))):=by
 by_cases hl:a.length=b.length
 ·refine A6 26 Tryz.func50 Ah fun X_ w_=>?_;refine Ao ?_;try exact trivial
  refine A8 (fun k:Nat=>k≤a.length∧a.take k=b.take k) (fun k=>[(0,.d (.sl 1 (is a))),(1,.d (.sl 1 (is b))),(5,.d (.int .i64 k))]) (fun _=>[]) 0 (fun k=>a.length-k) [0,1,5] [] 0 ⟨Nat.zero_le _,rfl⟩ rfl rfl (Nat.le_refl _) (fun _ _=>rfl) (fun _ _=>rfl) fun k hk=>?_;obtain⟨hk1,hw⟩:=hk;refine Ao ?_;try exact trivial
  with_reducible apply Ok (by simp(disch:=omega)only[go_sem];rfl)<;>intro hc<;>(try simp only[decide_eq_true_eq,decide_eq_false_iff_not,beq_iff_eq,beq_eq_false_iff_ne,bne_iff_ne,bne_eq_false_iff_eq,gt_iff_lt,ge_iff_le,Int.not_lt,Int.not_le,ne_eq]at hc)
  ·have hk':k<a.length:=by omega
   have hk2:k<b.length:=by omega
   refine Ao ?_;try exact trivial
   with_reducible apply Ok (by simp(disch:=omega)only[go_sem];rfl)<;>intro hc<;>(try simp only[decide_eq_true_eq,decide_eq_false_iff_not,beq_iff_eq,beq_eq_false_iff_ne,bne_iff_ne,bne_eq_false_iff_eq,gt_iff_lt,ge_iff_le,Int.not_lt,Int.not_le,ne_eq]at hc)
   ·have e:decide (a=b)=false:=decide_eq_false fun h=>hc (by rw[h]);refine Au @e ?_;try exact trivial
   ·have e:a.take (k+1)=b.take (k+1):=by
     rw[List.take_add_one,List.take_add_one,hw,List.getElem?_eq_getElem hk',List.getElem?_eq_getElem hk2,← getElem!_pos a k hk',← getElem!_pos b k hk2,hc]
    refine Ao ?_;try exact trivial
    refine⟨k+1,⟨by omega,e⟩,?_,rfl,by omega⟩;exact Ei
  ·have hk':k=a.length:=by omega
   subst hk';have e:decide (a=b)=true:=decide_eq_true (by rw[List.take_length,hl,List.take_length]at hw;exact hw);refine Au @e ?_;try exact trivial
 ·have e:decide (a=b)=false:=decide_eq_false fun h=>hl (by rw[h]);refine A6 26 Tryz.func50 Ah fun X_ w_=>?_;refine Au @e ?_;try exact trivial
end Go.Eng.Tryz
namespace Go.Eng.Tryz
attribute [local go_sem] Aq As
def D9(z:Int):Bool:=decide (0≤z∧z≤1114111∧(z<55296∨57343<z))
theorem TY{z:Int}(h:0≤z∧z≤1114111∧(z<55296∨57343<z)):D9 z=true:=decide_eq_true h
theorem PT{z:Int}(h:¬(0≤z∧z≤1114111∧(z<55296∨57343<z))):D9 z=false:=decide_eq_false h
theorem Mp{z:Int}:A3 Tryz.prog 130 [.int .i64 z] (.bool (D9 z)):=by
 by_cases h1:z<0
 ·have e:=PT (z:=z) (by omega);refine A6 13 Tryz.func130 A4 fun X_ w_=>?_;refine Au @e ?_;try exact trivial
 by_cases h2:1114111<z
 ·have e:=PT (z:=z) (by omega);refine A6 13 Tryz.func130 A4 fun X_ w_=>?_;refine Au @e ?_;try exact trivial
 by_cases h3:z<55296
 ·have e:=TY (z:=z) (by omega);refine A6 13 Tryz.func130 A4 fun X_ w_=>?_;refine Au @e ?_;try exact trivial
 by_cases h4:57343<z
 ·have e:=TY (z:=z) (by omega);refine A6 13 Tryz.func130 A4 fun X_ w_=>?_;refine Au @e ?_;try exact trivial
 ·have e:=PT (z:=z) (by omega);refine A6 13 Tryz.func130 A4 fun X_ w_=>?_;refine Au @e ?_;try exact trivial
theorem fz{z:Int}:A3 Tryz.prog 241 [.int .i64 z] (.bool (!D9 z)):=by
 refine A6 6 Tryz.func241 A4 fun X_ w_=>?_;have c0_:=@Mp;refine Ao ?_;try exact trivial
def KC(l:List Int):Bool:=l.all D9
theorem UG{l:List Int}{k:Nat}(h:k<l.length):KC (l.take (k+1))=(KC (l.take k)&&D9 (l[k]!)):=by
 unfold KC;rw[List.take_add_one,List.all_append,List.getElem?_eq_getElem h,← getElem!_pos l k h];generalize l[k]! =z;simp
theorem Y7{l:List Int}{k:Nat}(h:k<l.length)(hb:D9 (l[k]!)=false):KC l=false:=by
 cases hf:KC l with
 |false=>rfl
 |true =>
  have:=List.all_eq_true.1 hf (l[k]!) (by rw[getElem!_pos l k h];exact List.getElem_mem h);rw[hb]at this;cases this
def Sq(l:List Int):Int:=if KC l=true then -1 else(l.findIdx (fun z => !D9 z):Nat)
theorem Yf{l:List Int}{k:Nat}(h:k<l.length)(hk:KC (l.take k)=true)(hb:D9 (l[k]!)=false):Sq l=(k:Int):=by
 unfold Sq;rw[if_neg (by rw[Y7 h hb];simp)];congr 1;rw[List.findIdx_eq h];refine⟨by rw[← getElem!_pos l k h,hb];rfl,fun j hj=>?_⟩;have hm:l[j]∈l.take k:=by
  have:(l.take k)[j]? =some l[j]:=by rw[List.getElem?_take,if_pos hj,List.getElem?_eq_getElem (by omega)]
  exact List.mem_of_getElem? this
 have:=List.all_eq_true.1 hk _ hm;rw[this];rfl
theorem aV{l:List Int}(hl:l.length≤9223372036854775807):A3 Tryz.prog 205 [.sl 1 (is l),.fn 241] (.int .i64 (Sq l)):=by
 refine A6 19 Tryz.func205 Ah fun X_ w_=>?_;refine Ao ?_;try exact trivial
 refine A8 (fun k:Nat=>k≤l.length∧KC (l.take k)=true) (fun k=>[(0,.d (.sl 1 (is l))),(1,.d (.fn 241)),(7,.d (.int .i64 l.length)),(8,.d (.int .i64 k))]) (fun _=>[]) 0 (fun k=>l.length-k) [0,1,7,8] [] 0 ⟨Nat.zero_le _,rfl⟩ rfl rfl (Nat.le_refl _) (fun _ _=>rfl) (fun _ _=>rfl) fun k hk=>?_;obtain⟨hk1,hw⟩:=hk;by_cases hk':k<l.length
 ·have hst:=UG hk';cases hg:D9 (l[k]!)
  ·have e:=Yf hk' hw hg;have eg:(!D9 (l[k]!))=true:=by rw[hg];rfl
   have c0_:=@fz;refine Au (And.intro @e @eg) ?_;try exact trivial
  ·rw[hw,hg]at hst;have eg:(!D9 (l[k]!))=false:=by rw[hg];rfl
   have c0_:=@fz;refine Au @eg ?_;try exact trivial
   refine⟨k+1,⟨by omega,hst⟩,?_,rfl,by omega⟩;exact Ei
 ·have hkl:k=l.length:=by omega
  subst hkl;rw[List.take_length]at hw;have e:Sq l = -1:=by unfold Sq;rw[if_pos hw]
  refine Au @e ?_;try exact trivial
theorem Yg(l:List Int):decide (0≤Sq l) = !KC l:=by
 unfold Sq;cases h:KC l
 ·rw[if_neg (by simp)];simp
 ·rw[if_pos rfl];rfl
theorem UN{l:List Int}(hl:l.length≤9223372036854775807):A3 Tryz.prog 143 [.sl 1 (is l),.fn 241] (.bool (!KC l)):=by
 have e:=Yg l;refine A6 9 Tryz.func143 Ah fun X_ w_=>?_;have c0_:=aV hl;refine Au @e ?_;try exact trivial
def VZ:List Int→Int
 | []=>0
 |x::r=>if x=0 then VZ r else x
theorem ZJ{l:List Int}(hl:l.length≤9223372036854775807):A3 Tryz.prog 58 [.sl 1 (is l)] (.int .i64 (VZ l)):=by
 refine A6 18 Tryz.func58 A4 fun X_ w_=>?_;refine Ao ?_;try exact trivial
 refine A8 (fun k:Nat=>k≤l.length∧VZ (l.drop k)=VZ l) (fun k=>[(3,.d (.int .i64 0)),(6,.d (.sl 1 (is l))),(7,.d (.int .i64 l.length)),(8,.d (.int .i64 k))]) (fun _=>[]) 0 (fun k=>l.length-k) [3,6,7,8] [] 0 ⟨Nat.zero_le _,rfl⟩ rfl rfl (Nat.le_refl _) (fun _ _=>rfl) (fun _ _=>rfl) fun k hk=>?_;obtain⟨hk1,hw⟩:=hk;by_cases hk':k<l.length
 ·rw[JU hk']at hw;simp only[VZ]at hw;by_cases hz:l[k]! =0
  ·rw[if_pos hz]at hw;refine Au @hz ?_;try exact trivial
   refine⟨k+1,⟨by omega,hw⟩,?_,rfl,by omega⟩;exact Ei
  ·rw[if_neg hz]at hw;refine Au (hw.symm) ?_;try exact trivial
 ·rw[List.drop_eq_nil_of_le (by omega)]at hw;have e:VZ l=0:=hw.symm;refine Au @e ?_;try exact trivial
theorem SL{a:Int}:A3 Tryz.prog 250 [.int .u64 a] (.bool false):=by
 have e:(a !=a)=false:=by simp
 refine A6 6 Tryz.func250 A4 fun X_ w_=>?_;refine Au @e ?_;try exact trivial
theorem QO{a b:Int}:A3 Tryz.prog 211 [.int .u64 a,.int .u64 b] (.int .i64 (EE a b)):=by
 by_cases h1:a<b
 ·have e:EE a b = -1:=by unfold EE;rw[if_pos h1]
  refine A6 20 Tryz.func211 Ah fun X_ w_=>?_;have c0_:=@SL;refine Au @e ?_;try exact trivial
 ·by_cases h2:b<a
  ·have e:EE a b=1:=by unfold EE;rw[if_neg h1,if_pos h2]
   refine A6 20 Tryz.func211 Ah fun X_ w_=>?_;have c0_:=@SL;refine Au @e ?_;try exact trivial
  ·have e:EE a b=0:=by unfold EE;rw[if_neg h1,if_neg h2]
   refine A6 20 Tryz.func211 Ah fun X_ w_=>?_;have c0_:=@SL;refine Au @e ?_;try exact trivial
structure Ru where
 left:List Int
 right:List Int
 cost:Int
deriving DecidableEq
instance:Inhabited Ru:=⟨⟨[],[],0⟩⟩
def ru(r:Ru):D:=.agg [.sl 1 (is r.left),.sl 1 (is r.right),.int .u64 r.cost]
def Ru.ok(r:Ru):Prop:=r.left.length≤9223372036854775807∧r.right.length≤9223372036854775807∧0≤r.cost∧r.cost≤18446744073709551615
def Xl(r s:Ru):Int:=VZ [Ae r.left s.left,Ae r.right s.right,EE r.cost s.cost]
theorem X8{r s:Ru}(hr:r.ok)(hs:s.ok):A3 Tryz.prog 156 [ru r,ru s] (.int .i64 (Xl r s)):=by
 have c:=ZJ (l:=[Ae r.left s.left,Ae r.right s.right,EE r.cost s.cost]) (by simp);unfold ru;refine A6 22 Tryz.func156 Ah fun X_ w_=>?_;have c0_:=GZ hr.1 hs.1;have c1_:=GZ hr.2.1 hs.2.1;have c2_:=@QO;have c3_:=c;refine Ao ?_;try exact trivial
end Go.Eng.Tryz
namespace Go.Eng.Tryz
open Go.Maps (Keyed)
attribute [local go_sem] Aq As
def gi(l:List Int)(i:Nat):Int:=(l[i]?).getD 0
def sok(l:List Int):Bool:=KC l&&decide (l.length≤8)
def s8(l:List Int):List Int:=if sok l=true then l else[]
def sd(l:List Int):D:=.agg [.int .i64 l.length,.int .i64 (gi l 0),.int .i64 (gi l 1),.int .i64 (gi l 2),.int .i64 (gi l 3),.int .i64 (gi l 4),.int .i64 (gi l 5),.int .i64 (gi l 6),.int .i64 (gi l 7)]
theorem Tc{l:List Int}(h:sok l=true):s8 l=l:=if_pos h
theorem dS{l:List Int}(h:sok l=false):s8 l=[]:=if_neg (by rw[h];simp)
theorem fB{l:List Int}(hl:l.length≤9223372036854775807):A3 Tryz.prog 209 [.sl 1 (is l)] (.tup [sd (s8 l),.bool (sok l)]):=by
 have hc:=UN hl;by_cases h8:8<l.length
 ·have e1:sok l=false:=by unfold sok;rw[decide_eq_false (by omega)];simp
  rw[dS e1,e1];unfold sd;refine A6 18 Tryz.func209 A4 fun X_ w_=>?_;have c0_:=hc;refine Au @gi.eq_1 ?_;try exact trivial
 cases hg:KC l
 ·have e1:sok l=false:=by unfold sok;rw[hg];rfl
  rw[hg]at hc;rw[dS e1,e1];unfold sd;refine A6 18 Tryz.func209 A4 fun X_ w_=>?_;have c0_:=hc;refine Au @gi.eq_1 ?_;try exact trivial
 have e1:sok l=true:=by unfold sok;rw[hg,decide_eq_true (by omega)];rfl
 rw[Tc e1,e1];rw[hg]at hc;clear e1 hg;unfold sd;rcases l with _|⟨a0,_|⟨a1,_|⟨a2,_|⟨a3,_|⟨a4,_|⟨a5,_|⟨a6,_|⟨a7,_⟩⟩⟩⟩⟩⟩⟩⟩
 ·refine A6 18 Tryz.func209 A4 fun X_ w_=>?_;have c0_:=hc;refine Au (And.intro @is.eq_1 @gi.eq_1) ?_;try exact trivial
 ·refine A6 18 Tryz.func209 A4 fun X_ w_=>?_;have c0_:=hc;refine Au (And.intro @is.eq_1 @gi.eq_1) ?_;try exact trivial
 ·refine A6 18 Tryz.func209 A4 fun X_ w_=>?_;have c0_:=hc;refine Au (And.intro @is.eq_1 @gi.eq_1) ?_;try exact trivial
 ·refine A6 18 Tryz.func209 A4 fun X_ w_=>?_;have c0_:=hc;refine Au (And.intro @is.eq_1 @gi.eq_1) ?_;try exact trivial
 ·refine A6 18 Tryz.func209 A4 fun X_ w_=>?_;have c0_:=hc;refine Au (And.intro @is.eq_1 @gi.eq_1) ?_;try exact trivial
 ·refine A6 18 Tryz.func209 A4 fun X_ w_=>?_;have c0_:=hc;refine Au (And.intro @is.eq_1 @gi.eq_1) ?_;try exact trivial
 ·refine A6 18 Tryz.func209 A4 fun X_ w_=>?_;have c0_:=hc;refine Au (And.intro @is.eq_1 @gi.eq_1) ?_;try exact trivial
 ·refine A6 18 Tryz.func209 A4 fun X_ w_=>?_;have c0_:=hc;refine Au (And.intro @is.eq_1 @gi.eq_1) ?_;try exact trivial
 rename_i r;rcases r with _|⟨b,r⟩
 ·refine A6 18 Tryz.func209 A4 fun X_ w_=>?_;have c0_:=hc;refine Au (And.intro @is.eq_1 @gi.eq_1) ?_;try exact trivial
 ·exfalso;simp only[List.length_cons]at h8;omega
end Go.Eng.Tryz
