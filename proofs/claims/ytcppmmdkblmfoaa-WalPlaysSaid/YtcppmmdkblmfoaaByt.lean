/- A byte as a value (it stands in Sum). -/
import Derived.Test.YtcppmmdkblmfoaaSum
